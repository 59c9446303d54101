/-
  The engine, part twelve (e): a region that makes slices in whatever order.
  Conditions: none; nothing is claimed of the program here.
-/
import Derived.Test.YtghbobmkkbdhpaaEngMatchToEngAny
import Derived.Below
import Derived.WalkKit
import Derived.ProofKit
import Derived.OpenShut
import Derived.ShutString
import Derived.ChangeOld
import Derived.SizedLaws
import Derived.Deep.Slices
import Derived.JoinedOf
set_option linter.unusedVariables false
set_option linter.unusedSimpArgs false
namespace Go.Eng
variable {RT : RoTab} {E : Env} {F : Fr} {a : Act} {H : Heap} {fp : Fp} {w : World} {P : Program} {Y : Type} {y : Y} {C : Cfg} {K : FCfg} {ops : Array Oper}

/-- Ahead of an operation. -/
structure RecM where
  wd : Bool
  F : Fr
  G : Heap
  v : AV

def RecMOK (C : Cfg) (K : FCfg) (ops : Array Oper) (H : Heap) (nx i : Nat) (o : Oper) (r r' : RecM) : Prop :=
  r'.F = putO r.F o.dst r.v ∧
  ((r.wd = false ∧ WantIs ops o r.F false ∧ r.v = .at .und ∧ r'.G = r.G) ∨
   (r.wd = true ∧ WantIs ops o r.F true ∧
    ((isMk K o = true ∧ ∃ kd xs, evMk C r.F o.op (fun kd xs => some (kd, xs)) = some (kd, xs) ∧ r.v = .at (.full (nx + i) true) ∧ r'.G = putH r.G (nx + i) (some (.ints true kd xs))) ∨
     (isMk K o = false ∧ evR C.P C.RT H r.F o.op some = some r.v ∧ r'.G = r.G))))

theorem mkA_cp {t : TypeId} {l c : AV} {k : IntKind → List Int → Option Y} (h : mkA P t l c k = some y) : ∃ kd xs, mkA P t l c (fun kd xs => some (kd, xs)) = some (kd, xs) ∧ k kd xs = some y := by
  unfold mkA at h ⊢
  split at h
  · split at h
    · rw [gate_some, chk_some] at h
      obtain ⟨h1, h2, h3⟩ := h
      refine ⟨_, _, ?_, h3⟩
      rw [gate_some, chk_some]
      exact ⟨h1, h2, rfl⟩
    · simp at h
  · simp at h
theorem evMk_cp {op : Op} {k : IntKind → List Int → Option Y} (h : evMk C F op k = some y) : ∃ kd xs, evMk C F op (fun kd xs => some (kd, xs)) = some (kd, xs) ∧ k kd xs = some y := by
  unfold evMk at h ⊢
  split at h
  · exact mkA_cp h
  · simp at h

theorem evMks_trace {H : Heap} {nx : Nat} {k : Fr → Heap → Option Y} : ∀ (os : List Oper) (i : Nat) (F : Fr) (G : Heap),
    evMks C K ops.toList H nx i os F G k = some y → (∀ j, os[j]? = ops[i + j]?) →
    ∃ r : Nat → RecM, (r i).F = F ∧ (r i).G = G ∧ (∀ j o, i ≤ j → ops[j]? = some o → RecMOK C K ops H nx j o (r j) (r (j + 1))) ∧ k (r (i + os.length)).F (r (i + os.length)).G = some y
  | [], i, F, G, hk, ho => by
    simp only [evMks] at hk
    refine ⟨fun _ => ⟨false, F, G, .at .unk⟩, rfl, rfl, fun j o hj hjo => ?_, hk⟩
    have := ho (j - i)
    rw [show i + (j - i) = j by omega, hjo] at this
    simp at this
  | o :: os, i, F, G, hk, ho => by
    have ho0 : ops[i]? = some o := by simpa using (ho 0).symm
    have ho' : ∀ j, os[j]? = ops[i + 1 + j]? := fun j => by
      have := ho (j + 1)
      rw [show i + (j + 1) = i + 1 + j by omega] at this
      simpa using this
    have fin : ∀ (wd : Bool) (v : AV) (F' : Fr) (G' : Heap), evMks C K ops.toList H nx (i + 1) os F' G' k = some y →
        (∀ r' : RecM, r'.F = F' → r'.G = G' → RecMOK C K ops H nx i o ⟨wd, F, G, v⟩ r') →
        ∃ r : Nat → RecM, (r i).F = F ∧ (r i).G = G ∧ (∀ j o, i ≤ j → ops[j]? = some o → RecMOK C K ops H nx j o (r j) (r (j + 1))) ∧ k (r (i + (o :: os).length)).F (r (i + (o :: os).length)).G = some y := by
      intro wd v F' G' hk' hok
      obtain ⟨r, r1, r2, r3, r4⟩ := evMks_trace os (i + 1) F' G' hk' ho'
      refine ⟨fun j => if j = i then ⟨wd, F, G, v⟩ else r j, by simp, by simp, fun j o' hj hjo => ?_, ?_⟩
      · by_cases he : j = i
        · subst he
          rw [ho0] at hjo
          obtain rfl := Option.some.inj hjo
          simp only [if_true, if_neg (show j + 1 ≠ j by omega)]
          exact hok _ r1 r2
        · simp only [if_neg he, if_neg (show j + 1 ≠ i by omega)]
          exact r3 j o' (by omega) hjo
      · simp only [List.length_cons, if_neg (show i + (os.length + 1) ≠ i by omega)]
        rw [show i + (os.length + 1) = i + 1 + os.length by omega]
        exact r4
    simp only [evMks] at hk
    rcases evGuard_all hk with ⟨hw, hk⟩ | ⟨hw, hk⟩
    · cases hm : isMk K o with
      | true =>
        simp only [hm] at hk
        obtain ⟨kd, xs, h1, h2⟩ := evMk_cp hk
        exact fin true _ _ _ h2 fun r' e1 e2 => ⟨e1, Or.inr ⟨rfl, hw, Or.inl ⟨hm, kd, xs, h1, rfl, e2⟩⟩⟩
      | false =>
        simp only [hm] at hk
        rw [gate_some] at hk
        obtain ⟨_, hk⟩ := hk
        obtain ⟨v, h1, h2⟩ := evR_cp _ _ _ hk
        exact fin true v _ _ h2 fun r' e1 e2 => ⟨e1, Or.inr ⟨rfl, hw, Or.inr ⟨hm, h1, e2⟩⟩⟩
    · exact fin false _ _ _ hk fun r' e1 e2 => ⟨e1, Or.inl ⟨rfl, hw, rfl, e2⟩⟩

/-- What is given. -/
structure SetM (C : Cfg) (K : FCfg) (ops : Array Oper) (F : Fr) (H : Heap) (nx N : Nat) (r : Nat → RecM) : Prop where
  hC : CfgOK C
  F0 : (r 0).F = F
  G0 : (r 0).G = H
  step : ∀ j o, ops[j]? = some o → RecMOK C K ops H nx j o (r j) (r (j + 1))
  back : backEdges 0 ops.toList = true
  pairs : pairsOk ops.toList (ancsOf [] ops.toList) [] ops.toList = true
  dst : dstOps N ops.toList = true

variable {nx N : Nat} {r : Nat → RecM}

theorem SetM.frame (S : SetM C K ops F H nx N r) : ∀ (j t : Nat), j ≤ ops.size →
    (∃ m o, m < j ∧ ops[m]? = some o ∧ o.dst = some t ∧ (r j).F t = (r m).v) ∨ ((∀ m o, m < j → ops[m]? = some o → o.dst ≠ some t) ∧ (r j).F t = F t)
  | 0, t, _ => Or.inr ⟨fun m o h => by omega, by rw [S.F0]⟩
  | j + 1, t, hj => by
    have hoj : ops[j]? = some ops[j] := by simp [show j < ops.size by omega]
    have hF : (r (j + 1)).F = putO (r j).F ops[j].dst (r j).v := (S.step j _ hoj).1
    by_cases hd : ops[j].dst = some t
    · refine Or.inl ⟨j, _, by omega, hoj, hd, ?_⟩
      rw [hF, hd]
      simp only [putO, putF_same]
    · have hFt : (r (j + 1)).F t = (r j).F t := by
        rw [hF]
        cases hdd : ops[j].dst with
        | none => rfl
        | some d =>
          simp only [putO]
          exact putF_other fun he => hd (by rw [hdd, he])
      rcases S.frame j t (by omega) with ⟨m, o, h1, h2, h3, h4⟩ | ⟨h1, h2⟩
      · exact Or.inl ⟨m, o, by omega, h2, h3, by rw [hFt, h4]⟩
      · refine Or.inr ⟨fun m o hm ho => ?_, by rw [hFt, h2]⟩
        by_cases he : m = j
        · subst he
          rw [hoj] at ho
          obtain rfl := Option.some.inj ho
          exact hd
        · exact h1 m o (by omega) ho

theorem SetM.pair (S : SetM C K ops F H nx N r) {i m : Nat} {x b : Oper} (hx : ops[i]? = some x) (hb : ops[m]? = some b) (him : i < m) :
    pairOk ops.toList (bit (nthD 0 (ancsOf [] ops.toList) m) i) x b = true := by
  have ha := anc_get hb
  have := pairsOk_get S.pairs anc_len m i b x _ (by simpa using hb) ha (by simpa using hx) (by simpa using him)
  rwa [show nthD 0 (ancsOf [] ops.toList) m = edgesOf ((ancsOf [] ops.toList).take m) b.after.toList by rw [nthD_eq, List.getD_eq_getElem?_getD, ha]; rfl]

theorem SetM.dst_ne (S : SetM C K ops F H nx N r) {i m : Nat} {x b : Oper} {d : Tmp} (hx : ops[i]? = some x) (hb : ops[m]? = some b) (hxd : x.dst = some d) (hbd : b.dst = some d) : i = m := by
  have key : ∀ {i m : Nat} {x b : Oper}, ops[i]? = some x → ops[m]? = some b → x.dst = some d → b.dst = some d → ¬ i < m := by
    intro i m x b hx hb hxd hbd him
    have := S.pair hx hb him
    unfold pairOk at this
    rw [eqO_some hxd hbd] at this
    simp at this
  have h1 := key hx hb hxd hbd
  have h2 := key hb hx hbd hxd
  omega

/-- What there is at last, place by place. -/
theorem SetM.G_low (S : SetM C K ops F H nx N r) : ∀ j, j ≤ ops.size → ∀ id, nx + j ≤ id ∨ id < nx → (r j).G id = H id
  | 0, _, id, _ => by rw [S.G0]
  | j + 1, hj, id, hid => by
    have hoj : ops[j]? = some ops[j] := by simp [show j < ops.size by omega]
    have ih := S.G_low j (by omega) id (by omega)
    rcases (S.step j _ hoj).2 with ⟨_, _, _, h⟩ | ⟨_, _, ⟨_, kd, xs, _, _, h⟩ | ⟨_, _, h⟩⟩
    · rw [h]; exact ih
    · rw [h, putH_eq, if_neg (by omega)]; exact ih
    · rw [h]; exact ih
theorem SetM.G_high (S : SetM C K ops F H nx N r) {j : Nat} : ∀ d, j + d ≤ ops.size → ∀ id, id < nx + j → (r (j + d)).G id = (r j).G id
  | 0, _, id, _ => rfl
  | d + 1, hj, id, hid => by
    have hoj : ops[j + d]? = some ops[j + d] := by simp [show j + d < ops.size by omega]
    have ih := S.G_high (j := j) d (by omega) id hid
    rw [show j + (d + 1) = j + d + 1 by omega]
    rcases (S.step (j + d) _ hoj).2 with ⟨_, _, _, h⟩ | ⟨_, _, ⟨_, kd, xs, _, _, h⟩ | ⟨_, _, h⟩⟩
    · rw [h]; exact ih
    · rw [h, putH_eq, if_neg (by omega)]; exact ih
    · rw [h]; exact ih
theorem SetM.G_at (S : SetM C K ops F H nx N r) {i : Nat} (hi : i < ops.size) : (r ops.size).G (nx + i) = (r (i + 1)).G (nx + i) := by
  have := S.G_high (j := i + 1) (ops.size - (i + 1)) (by omega) (nx + i) (by omega)
  rwa [show i + 1 + (ops.size - (i + 1)) = ops.size by omega] at this

/-- What there is while some are done. -/
def HL (G : Heap) (nx : Nat) (Λ : Array Bool) : Heap := fun id => if nx ≤ id ∧ Λ.getD (id - nx) false = false then none else G id

/-- Where some have come up. -/
structure InvM (C : Cfg) (K : FCfg) (ops : Array Oper) (F : Fr) (r : Nat → RecM) (N : Nat) (E0 : Env) (H0 : Heap) (fp0 : Fp) (w0 : World) (nx : Nat) (a0 : Act) (Λ : Array Bool) (E : Env) (fp : Fp) (w : World) (a : Act) : Prop where
  size : Λ.size = ops.size
  closed : ∀ j o, ops[j]? = some o → Λ.getD j false = true → ∀ e ∈ o.after, bindsAny e.ground = true → Λ.getD e.on false = true
  sim : Sim C.RT E (HL (r ops.size).G nx Λ) fp w
  le : E0.Le E
  M : ∀ a v, E.M a = some v → E0.M a = some v
  free : ∀ id, nx ≤ id → Λ.getD (id - nx) false = false → E.info id = none
  frm : Frm w0 (fun _ => False) w
  own : ∀ x, OwnAll (HL (r ops.size).G nx Λ) fp x → x.1 < w0.heap.size → OwnAll H0 fp0 x
  got : ∀ m o d, ops[m]? = some o → o.dst = some d → Λ.getD m false = true → RV C.RT E (r m).v (a.tmps.getD d undef)
  not : ∀ d, (∀ m o, ops[m]? = some o → o.dst = some d → Λ.getD m false = false) → RV C.RT E (F d) (a.tmps.getD d undef)
  asz : a.tmps.size = N
  df : a.defers = []
  same : Same (asgOps ops.toList) a0 a

variable {E0 : Env} {fp0 : Fp} {w0 : World} {a0 : Act} {Λ : Array Bool}

theorem InvM.sees (S : SetM C K ops F H nx N r) (I : InvM C K ops F r N E0 H fp0 w0 nx a0 Λ E fp w a) {i : Nat} {o : Oper} (ho : ops[i]? = some o) (hun : Λ.getD i false = false)
    (hed : ∀ e ∈ o.after, bindsAny e.ground = true → Λ.getD e.on false = true) {t : Tmp} (ht : t ∈ eyes ops.toList o) : RV C.RT E ((r i).F t) (a.tmps.getD t undef) := by
  have hdone := anc_done S.back I.closed (i + 1) i o (by omega) ho hed
  rcases S.frame i t (by have := op_lt ho; omega) with ⟨m, om, h1, h2, h3, h4⟩ | ⟨h1, h2⟩
  · rw [h4]
    refine I.got m om t h2 h3 (hdone m ?_)
    have := S.pair h2 ho h1
    unfold pairOk at this
    rw [memO_some h3 ht] at this
    simp only [Bool.not_true, Bool.false_and, Bool.or_false, Bool.and_eq_true] at this
    exact this.2
  · rw [h2]
    refine I.not t fun m om hm hd => ?_
    have hmi : ¬ m < i := fun h => h1 m om h hm hd
    rcases Nat.lt_or_ge i m with him | him
    · have := S.pair ho hm him
      unfold pairOk at this
      rw [memO_some hd ht] at this
      simp only [Bool.not_true, Bool.and_false, Bool.or_false, Bool.and_eq_true] at this
      cases hl : Λ.getD m false with
      | false => rfl
      | true =>
        have := anc_done S.back I.closed (m + 1) m om (by omega) hm (I.closed m om hm hl) i this.2
        rw [hun] at this; simp at this
    · have : m = i := by omega
      rw [this]; exact hun

/-- One more has come up. -/
theorem InvM.next (S : SetM C K ops F H nx N r) (I : InvM C K ops F r N E0 H fp0 w0 nx a0 Λ E fp w a) {i : Nat} {o : Oper} (ho : ops[i]? = some o)
    (hed : ∀ e ∈ o.after, bindsAny e.ground = true → Λ.getD e.on false = true) {E' : Env} {fp' : Fp} {w' : World} {u : Value} (hle : E.Le E') (hM : ∀ a v, E'.M a = some v → E.M a = some v)
    (hfree : ∀ id, nx ≤ id → (Λ.setIfInBounds i true).getD (id - nx) false = false → E'.info id = none) (hfrm : Frm w (fun _ => False) w')
    (hown : ∀ x, OwnAll (HL (r ops.size).G nx (Λ.setIfInBounds i true)) fp' x → x.1 < w.heap.size → OwnAll (HL (r ops.size).G nx Λ) fp x)
    (hs' : Sim C.RT E' (HL (r ops.size).G nx (Λ.setIfInBounds i true)) fp' w') (hv : RV C.RT E' (r i).v u) :
    InvM C K ops F r N E0 H fp0 w0 nx a0 (Λ.setIfInBounds i true) E' fp' w' (a.put o.dst u) := by
  have hi := op_lt ho
  have hdl : ∀ d, o.dst = some d → d < a.tmps.size := by
    intro d hd
    rw [I.asz]
    have key : ∀ l : List Oper, dstOps N l = true → o ∈ l → d < N := by
      intro l
      induction l with
      | nil => intro _ h; simp at h
      | cons x l ih =>
        intro h hm
        obtain ⟨h1, h2⟩ := dstOps_cons h
        rcases List.mem_cons.1 hm with rfl | hm
        · exact h1 d hd
        · exact ih h2 hm
    exact key _ S.dst (by simpa using Array.mem_of_getElem? ho)
  have hself : (Λ.setIfInBounds i true).getD i false = true := getD_set_self (by rw [I.size]; exact hi)
  refine ⟨by simp [I.size], fun j oj hj hl e he hb => ?_, hs', I.le.trans hle, fun a v h => I.M a v (hM a v h), hfree, I.frm.trans hfrm (fun _ h => by simp at h),
    fun x hx hlt => I.own x (hown x hx (Nat.lt_of_lt_of_le hlt I.frm.size)) hlt, fun m om d hm hd hl => ?_, fun d hd => ?_, by rw [Act.put_size]; exact I.asz, by cases o.dst <;> exact I.df, ?_⟩
  · by_cases hij : i = j
    · subst hij
      rw [ho] at hj
      obtain rfl := Option.some.inj hj
      exact getD_set_true (hed e he hb)
    · rw [getD_set_ne false hij] at hl
      exact getD_set_true (I.closed j oj hj hl e he hb)
  · by_cases him : i = m
    · subst him
      rw [ho] at hm
      obtain rfl := Option.some.inj hm
      rw [hd]
      simp only [Act.put]
      rw [getD_set_same (hdl d hd)]
      exact hv
    · rw [getD_set_ne false him] at hl
      have hne : o.dst ≠ some d := fun h => him (S.dst_ne ho hm h hd)
      have : (a.put o.dst u).tmps.getD d undef = a.tmps.getD d undef := by
        cases hod : o.dst with
        | none => rfl
        | some d' =>
          simp only [Act.put]
          exact getD_set_other fun he => hne (by rw [hod, he])
      rw [this]
      exact (I.got m om d hm hd hl).mono hle
  · have hne : o.dst ≠ some d := fun h => by
      have := hd i o ho h
      rw [hself] at this
      simp at this
    have : (a.put o.dst u).tmps.getD d undef = a.tmps.getD d undef := by
      cases hod : o.dst with
      | none => rfl
      | some d' =>
        simp only [Act.put]
        exact getD_set_other fun he => hne (by rw [hod, he])
    rw [this]
    refine (I.not d fun m om hm hdm => ?_).mono hle
    have := hd m om hm hdm
    by_cases him : i = m
    · subst him; rw [hself] at this; simp at this
    · rwa [getD_set_ne false him] at this
  · refine I.same.trans ((Same.put a o.dst u).mono fun j hj => ?_)
    have key : ∀ l : List Oper, o ∈ l → asgOps l j = true := by
      intro l
      induction l with
      | nil => intro h; simp at h
      | cons x l ih =>
        intro hm
        rcases List.mem_cons.1 hm with rfl | hm
        · exact asgOps_head hj
        · exact asgOps_tail (ih hm)
    exact key _ (by simpa using Array.mem_of_getElem? ho)

/-- .. one that makes nothing. -/
theorem InvM.still (S : SetM C K ops F H nx N r) (hnone : ∀ id, nx ≤ id → H id = none) (I : InvM C K ops F r N E0 H fp0 w0 nx a0 Λ E fp w a) {i : Nat} {o : Oper} (ho : ops[i]? = some o)
    (hed : ∀ e ∈ o.after, bindsAny e.ground = true → Λ.getD e.on false = true) {u : Value} (hG : (r (i + 1)).G = (r i).G) (hv : RV C.RT E (r i).v u) :
    InvM C K ops F r N E0 H fp0 w0 nx a0 (Λ.setIfInBounds i true) E fp w (a.put o.dst u) := by
  have hi := op_lt ho
  have hGi : (r ops.size).G (nx + i) = none := by
    rw [S.G_at hi, hG, S.G_low i (by omega) _ (Or.inl (Nat.le_refl _)), hnone _ (by omega)]
  have hHL : HL (r ops.size).G nx (Λ.setIfInBounds i true) = HL (r ops.size).G nx Λ := by
    funext id
    unfold HL
    by_cases he : id = nx + i
    · subst he
      rw [hGi]
      simp
    · by_cases hn : nx ≤ id
      · rw [getD_set_ne false (by omega)]
      · rw [if_neg (by omega), if_neg (by omega)]
  refine I.next S ho hed (.refl E) (fun _ _ h => h) (fun id h0 h1 => ?_) (Frm.refl w _) (fun x hx _ => by rw [hHL] at hx; exact hx) (by rw [hHL]; exact I.sim) hv
  by_cases he : id - nx = i
  · rw [he, getD_set_self (by rw [I.size]; exact hi)] at h1
    simp at h1
  · rw [getD_set_ne false (fun h => he h.symm)] at h1
    exact I.free id h0 h1

theorem evMk_sound {o : Oper} {b : Nat} {k : IntKind → List Int → Option Y} (hs : Sim RT E H fp w) (hf : E.info b = none) (hr : RF RT E F a) (hk : evMk C F o.op k = some y) :
    ∃ kd xs I u w', k kd xs = some y ∧ (execOp a.eval o).run C.P w = .ok (.value u) w' ∧ R RT (putI E b I) (.full b true) u ∧
      Sim RT (putI E b I) (putH H b (some (.ints true kd xs))) (putFp fp b (Own I)) w' ∧ Frm w (fun _ => False) w' ∧ I.cb = w.heap.size := by
  unfold evMk at hk
  split at hk
  · rename_i t l c ho
    obtain ⟨kd, xs, I, u, w', h1, h2, h3⟩ := mk_sound (P := C.P) hs hf (opd_sound hr l) (opd_sound hr c) hk
    refine ⟨kd, xs, I, u, w', h1, ?_, h3⟩
    unfold execOp
    simp only [ho]
    simp only [Sem.run_bind, h2, Result.andThen_ok, Sem.run_pure]
  · simp at hk

/-- An operation that may come up. -/
theorem InvM.op (S : SetM C K ops F H nx N r) (hnone : ∀ id, nx ≤ id → H id = none) (I : InvM C K ops F r N E0 H fp0 w0 nx a0 Λ E fp w a) {i : Nat} {o : Oper} (ho : ops[i]? = some o) (hun : Λ.getD i false = false)
    (hed : ∀ e ∈ o.after, bindsAny e.ground = true → Λ.getD e.on false = true) {Q : Exit → Act → World → Prop} {Kk : Act → World → Prop}
    (hK : ∀ E' fp' w' a', InvM C K ops F r N E0 H fp0 w0 nx a0 (Λ.setIfInBounds i true) E' fp' w' a' → Kk a' w') : wpOp C.P ops Q i Kk a w := by
  have hi := op_lt ho
  have hG : GuardRel ops o C.RT E (r i).F a := fun g want d hg hd => I.sees S ho hun hed (eyes_guard hg hd)
  have hrf : RF C.RT E (only o.op.operands (r i).F) a := only_rf fun t ht => I.sees S ho hun hed (eyes_opd ht)
  have hco : ∀ x ∈ o.op.operands, evOpd (r i).F x = evOpd (only o.op.operands (r i).F) x := fun x hx => (only_opd hx).symm
  unfold wpOp
  simp only [ho]
  rcases (S.step i o ho).2 with ⟨h1, h2, h3, h4⟩ | ⟨h1, h2, ⟨hm, kd, xs, hev, hv, hgr⟩ | ⟨hm, hev, hgr⟩⟩
  · rw [if_neg (by rw [h2 _ _ _ hG]; simp)]
    exact hK E fp w _ (I.still S hnone ho hed h4 (by rw [h3]; exact R.und))
  · rw [if_pos (h2 _ _ _ hG)]
    left
    have hev' : evMk C (only o.op.operands (r i).F) o.op (fun kd xs => some (kd, xs)) = some (kd, xs) := by
      rw [← hev]
      unfold evMk
      split
      · rename_i t l c hop
        rw [hco l (by rw [hop]; simp [Op.operands]), hco c (by rw [hop]; simp [Op.operands])]
      · rfl
    have hfr := I.free (nx + i) (by omega) (by rw [Nat.add_sub_cancel_left]; exact hun)
    obtain ⟨kd', xs', J, u, w', g1, g2, g3, g4, g5, g6⟩ := evMk_sound (b := nx + i) I.sim hfr hrf hev'
    simp only [Option.some.injEq, Prod.mk.injEq] at g1
    obtain ⟨rfl, rfl⟩ := g1
    unfold Oper.wp
    rw [g2]
    have hGi : (r ops.size).G (nx + i) = some (.ints true kd' xs') := by rw [S.G_at hi, hgr, putH_eq, if_pos rfl]
    have hHL : HL (r ops.size).G nx (Λ.setIfInBounds i true) = putH (HL (r ops.size).G nx Λ) (nx + i) (some (.ints true kd' xs')) := by
      funext id
      rw [putH_eq]
      by_cases he : id = nx + i
      · subst he
        rw [if_pos rfl]
        unfold HL
        rw [Nat.add_sub_cancel_left, getD_set_self (by rw [I.size]; exact hi), if_neg (by simp)]
        exact hGi
      · rw [if_neg he]
        unfold HL
        by_cases hn : nx ≤ id
        · rw [getD_set_ne false (by omega)]
        · rw [if_neg (by omega), if_neg (by omega)]
    refine hK _ _ w' _ (I.next S ho hed (putI_le hfr) (fun _ _ h => h) (fun id h0 h1 => ?_) g5 (fun x hx hlt => ?_) (by rw [hHL]; exact g4) (by rw [hv]; exact g3))
    · by_cases he : id - nx = i
      · rw [he, getD_set_self (by rw [I.size]; exact hi)] at h1
        simp at h1
      · rw [getD_set_ne false (fun h => he h.symm)] at h1
        simp only [putI]
        rw [if_neg (by omega)]
        exact I.free id h0 h1
    · obtain ⟨id, b, hb, hx⟩ := hx
      rw [hHL, putH_eq] at hb
      simp only [putFp] at hx
      split at hb
      · rename_i he
        rw [if_pos he] at hx
        have := hx.1
        omega
      · rename_i he
        rw [if_neg he] at hx
        exact ⟨id, b, hb, hx⟩
  · rw [if_pos (h2 _ _ _ hG)]
    left
    rw [evR_congr hco] at hev
    have hsub : Sim C.RT E H fp w := I.sim.sub fun id b hb => by
      unfold HL
      rw [if_neg (fun h => by have := hnone id h.1; rw [this] at hb; simp at hb)]
      have hlt : id < nx := by
        rcases Nat.lt_or_ge id nx with h | h
        · exact h
        · rw [hnone id h] at hb; simp at hb
      rw [S.G_low _ (Nat.le_refl _) id (Or.inr hlt)]
      exact hb
    obtain ⟨v, u, g1, g2, g3⟩ := evR_sound hrf hsub hev
    simp only [Option.some.injEq] at g1
    unfold Oper.wp
    rw [g2]
    exact hK E fp w _ (I.still S hnone ho hed hgr (by rw [← g1]; exact g3))

theorem anyM_ok (S : SetM C K ops F H nx N r) (hnone : ∀ id, nx ≤ id → H id = none) {Q : Exit → Act → World → Prop}
    (hfin : ∀ Λ E fp w a, InvM C K ops F r N E0 H fp0 w0 nx a0 Λ E fp w a → (∀ j, j < ops.size → Λ.getD j false = true) → Q .normal a w) :
    ∀ (fuel : Nat) (Λ : Array Bool) (E : Env) (fp : Fp) (w : World) (a : Act), Λ.toList.count false ≤ fuel → InvM C K ops F r N E0 H fp0 w0 nx a0 Λ E fp w a → wpAny C.P .any ops Q fuel Λ a w
  | 0, Λ, E, fp, w, a, hf, I => by
    have hall : ∀ j, j < ops.size → Λ.getD j false = true := by
      intro j hj
      have hlt : j < Λ.size := by rw [I.size]; exact hj
      cases hl : Λ.getD j false with
      | true => rfl
      | false =>
        have hm : false ∈ Λ.toList := by
          simp [hlt] at hl
          rw [← hl]
          simp
        have := List.count_pos_iff.2 hm
        omega
    refine ⟨?_, hfin Λ E fp w a I hall⟩
    rw [List.eq_nil_iff_forall_not_mem]
    intro j hj
    rw [mem_ready] at hj
    obtain ⟨h1, o, ho, _⟩ := hj
    have := hall j (op_lt ho)
    have hlt : j < Λ.size := by rw [I.size]; exact op_lt ho
    simp [hlt] at h1 this
    rw [this] at h1
    simp at h1
  | fuel + 1, Λ, E, fp, w, a, hf, I => by
    refine ⟨fun hr => hfin Λ E fp w a I fun j hj => least_ready S.back I.size hr (j + 1) j (by omega) hj, fun i hi => ?_⟩
    rw [mem_ready] at hi
    obtain ⟨h1, o, ho, hed⟩ := hi
    have hlt : i < Λ.size := by rw [I.size]; exact op_lt ho
    have hun : Λ.getD i false = false := by simp [hlt] at h1 ⊢; exact h1
    refine I.op S hnone ho hun (fun e he hb => hed e he (by rw [binds_eq]; exact hb)) fun E' fp' w' a' I' => anyM_ok S hnone hfin fuel _ E' fp' w' a' ?_ I'
    have hli : Λ.toList[i]'(by simpa using hlt) = false := by simp [hlt] at hun; simpa using hun
    rw [Array.toList_setIfInBounds, List.count_set (by simpa using hlt)]
    rw [hli]
    have e1 : (false == false) = true := rfl
    have e2 : ¬ (true == false) = true := by decide
    rw [if_pos e1, if_neg e2]
    omega

/-- A REGION THAT MAKES SLICES IN WHATEVER ORDER. -/
theorem evDrawM_sound (hC : CfgOK C) {k : KS Y} {id n : Nat} {Q : Exit → Act → World → Prop}
    (hk : evDrawM C K ops.toList F H nx k = some y) (st : St C.RT E H fp w F a nx n) (hd : dstOps n ops.toList = true)
    (hQ : ∀ F' H' nx' E' fp' a' w', k F' H' nx' = some y → St C.RT E' H' fp' w' F' a' nx' n → Trip C E H fp w nx E' H' fp' w' nx' → Same (asgOps ops.toList) a a' → Q .normal a' w') :
    (Code.region id ops true).wp C.P Q a w := by
  unfold evDrawM at hk
  rw [gate_some] at hk
  obtain ⟨hg, hk⟩ := hk
  simp only [Bool.and_eq_true] at hg
  obtain ⟨hb, hp⟩ := hg
  obtain ⟨r, r1, r2, r3, r4⟩ := evMks_trace ops.toList 0 F H hk (fun j => by simp)
  have S : SetM C K ops F H nx n r := ⟨hC, r1, r2, fun j o ho => r3 j o (Nat.zero_le _) ho, hb, hp, hd⟩
  have hnone : ∀ id, nx ≤ id → H id = none := fun id h => fresh_heap st.sim st.fresh h
  have hdrew : Frm w (fun _ => False) { w with drawn := w.drawn + 1 } := Frm.drew w _
  have hsim : Sim C.RT E H fp { w with drawn := w.drawn + 1 } := st.sim.frm hdrew (fun _ _ h => h) (fun _ _ _ h => h)
  have hGe : ∀ id, nx + ops.size ≤ id ∨ id < nx → (r ops.size).G id = H id := fun id h => S.G_low ops.size (Nat.le_refl _) id h
  rw [Nat.zero_add] at r4
  simp only [Array.length_toList] at r4
  rw [len_eq'] at r4
  simp only [Array.length_toList] at r4
  refine wp_region_any hC.wide (anyM_ok (E0 := E) (fp0 := fp) (w0 := w) (a0 := a) S hnone (fun Λ E' fp' w' a' I hall => ?_) ops.size _ E fp _ a (by simp) ?_)
  · have hHL : HL (r ops.size).G nx Λ = (r ops.size).G := by
      funext id
      unfold HL
      by_cases h : nx ≤ id ∧ Λ.getD (id - nx) false = false
      · rw [if_pos h]
        rcases Nat.lt_or_ge (id - nx) ops.size with hl | hl
        · have := hall _ hl; rw [this] at h; simp at h
        · rw [hGe id (Or.inl (by omega)), hnone id h.1]
      · rw [if_neg h]
    have hsim' := I.sim
    have hown := I.own
    rw [hHL] at hsim' hown
    have hfresh : Fresh E' (nx + ops.size) := fun id hid => I.free id (by omega) (by
      have : ¬ id - nx < Λ.size := by rw [I.size]; omega
      simp [Array.getD, this])
    have hstep : Step E H fp w nx E' (r ops.size).G fp' w' (nx + ops.size) := ⟨I.le, I.frm.mono fun _ h => by simp at h, hown, by omega, hfresh, fun a v h => Or.inl (I.M a v h)⟩
    refine hQ _ _ _ E' fp' a' w' r4 ⟨hsim', hfresh, fun t => ?_, I.asz, I.df⟩ hstep.trip I.same
    rcases S.frame ops.size t (Nat.le_refl _) with ⟨m, o, h1, h2, h3, h4⟩ | ⟨h1, h2⟩
    · rw [h4]
      exact I.got m o t h2 h3 (hall m h1)
    · rw [h2]
      exact I.not t fun m o hm hd => absurd hd (h1 m o (op_lt hm) hm)
  · have hHL : HL (r ops.size).G nx (Array.replicate ops.size false) = H := by
      funext id
      unfold HL
      by_cases h : nx ≤ id
      · rw [if_pos ⟨h, by
          rcases Nat.lt_or_ge (id - nx) ops.size with hl | hl
          · simp [Array.getD, hl]
          · simp [Array.getD, hl]⟩, hnone id h]
      · rw [if_neg (fun hh => h hh.1), hGe id (Or.inr (by omega))]
    refine ⟨by simp, fun j o hj hl => ?_, by rw [hHL]; exact hsim, .refl E, fun _ _ h => h, fun id h0 _ => st.fresh id h0, hdrew, fun x hx _ => by rw [hHL] at hx; exact hx, fun m o d hm hd hl => ?_, fun d _ => st.rf d, st.size, st.df, .refl _ _⟩
    · have := op_lt hj
      simp [this] at hl
    · have := op_lt hm
      simp [this] at hl

/-- A REGION IN WHATEVER ORDER. -/
theorem evDraw_sound (hC : CfgOK C) {k : KS Y} {id n : Nat} {Q : Exit → Act → World → Prop}
    (hk : evDraw C K ops.toList F H nx k = some y) (st : St C.RT E H fp w F a nx n) (hd : dstOps n ops.toList = true)
    (hQ : ∀ F' H' nx' E' fp' a' w', k F' H' nx' = some y → St C.RT E' H' fp' w' F' a' nx' n → Trip C E H fp w nx E' H' fp' w' nx' → Same (asgOps ops.toList) a a' → Q .normal a' w') :
    (Code.region id ops true).wp C.P Q a w := by
  unfold evDraw at hk
  cases hm : anyMk K ops.toList with
  | true => simp only [hm] at hk; exact evDrawM_sound hC hk st hd hQ
  | false => simp only [hm] at hk; exact evDrawC_sound hC hk st hd hQ

end Go.Eng
/-
  The engine, part thirteen: code.
  Conditions: none; nothing is claimed of the program here.
-/
namespace Go.Eng
variable {RT : RoTab} {E : Env} {F : Fr} {a : Act} {H : Heap} {fp : Fp} {w : World} {P : Program} {Y : Type} {y : Y} {C : Cfg}

/-! ### Behind a loop -/
theorem allLive_get : ∀ {l : List (Nat × BPat)} {q : Nat × BPat}, allLive l = true → q ∈ l → q.2 ≠ .dead
  | [], q, _, h => by simp at h
  | (t, p) :: r, q, h, hm => by
    have hh : p ≠ .dead ∧ allLive r = true := by
      cases p <;> simp [allLive] at h ⊢ <;> exact h
    rcases List.mem_cons.1 hm with rfl | hm
    · exact hh.1
    · exact allLive_get hh.2 hm

/-- Values that look at no memory that stays. -/
theorem noRo_R {E' : Env} {L Lc : Leaves} {p : Pat} {u : Value} (hi : ∀ t I, E.info t = some I → E'.info t = some I) (hp : noRo p = true) (h : R RT E (fAtom L Lc p) u) : R RT E' (fAtom L Lc p) u := by
  cases p with
  | unk => exact .unk u
  | bool i => rw [R.bool_inv h]; exact .bool _
  | int k i => rw [R.int_inv h]; exact .int _ _
  | fbool i => rw [R.bool_inv h]; exact .bool _
  | fint k i => rw [R.int_inv h]; exact .int _ _
  | roi k i => simp [noRo] at hp
  | froi k i => simp [noRo] at hp
  | nilp => simp only [fAtom] at h ⊢; cases h; exact .nilp
  | nils => simp only [fAtom] at h ⊢; cases h; exact .nils
  | ptr t off => simp only [fAtom] at h ⊢; cases h with | ptr h => exact .ptr (hi _ _ h)
  | full t nn => simp only [fAtom] at h ⊢; cases h with | full h hb hn hc hg => exact .full (hi _ _ h) hb hn hc hg
  | ror tag => simp [noRo] at hp
  | fn f => simp only [fAtom] at h ⊢; cases h with | fn hn hr => exact .fn hn fun j x hj => by simp at hj
  | ifp ty t off => simp only [fAtom] at h ⊢; cases h with | ifa hr => cases hr with | ptr h => exact .ifa (.ptr (hi _ _ h))
  | fsub t h1 h2 => simp only [fAtom] at h ⊢; cases h with | sub h hw hl hc hb => exact .sub (hi _ _ h) hw hl hc hb
  | clo f ts =>
    simp only [fAtom] at h ⊢
    cases h with
    | fn hn hr =>
      refine R.fn hn fun j x hj => ?_
      obtain ⟨q, hts, rfl⟩ := cloA_get hj
      obtain ⟨I, hI, hu⟩ := R.ptr_inv (hr j _ hj)
      rw [hu]
      exact R.ptr (hi _ _ hI)

theorem noRos_get : ∀ {ps : List Pat} {p : Pat}, noRos ps = true → p ∈ ps → noRo p = true
  | [], p, _, h => by simp at h
  | q :: r, p, h, hm => by
    simp only [noRos, Bool.and_eq_true] at h
    rcases List.mem_cons.1 hm with rfl | hm
    · exact h.1
    · exact noRos_get h.2 hm

theorem noRoS_get : ∀ {ps : List (Nat × VPat)} {q : Nat × VPat}, noRoS ps = true → q ∈ ps → noRoV q.2 = true
  | [], p, _, h => by simp at h
  | (t, p') :: r, q, h, hm => by
    simp only [noRoS, Bool.and_eq_true] at h
    rcases List.mem_cons.1 hm with rfl | hm
    · exact h.1
    · exact noRoS_get h.2 hm

theorem noRoB_get : ∀ {bs : List (Nat × BPat)} {q : Nat × BPat} {wd : Nat} {ps : List Pat}, noRoB bs = true → q ∈ bs → q.2 = .cells wd ps → noRos ps = true
  | [], q, _, _, _, h, _ => by simp at h
  | (t, p) :: r, q, wd, ps, h, hm, he => by
    rcases List.mem_cons.1 hm with rfl | hm
    · simp only at he
      subst he
      simp only [noRoB, Bool.and_eq_true] at h
      exact h.1
    · refine noRoB_get (bs := r) ?_ hm he
      cases p <;> simp only [noRoB, Bool.and_eq_true] at h <;> first | exact h.2 | exact h | exact absurd h (by simp)

theorem noRoB_recs : ∀ {bs : List (Nat × BPat)} {q : Nat × BPat}, noRoB bs = true → q ∈ bs → (∀ g T h, q.2 ≠ .recs g T h) ∧ (∀ g T h, q.2 ≠ .frecs g T h) ∧ (∀ k h hi t, q.2 ≠ .fhole k h hi t)
  | [], q, _, h => by simp at h
  | (t, p) :: r, q, h, hm => by
    rcases List.mem_cons.1 hm with rfl | hm
    · cases p <;> simp_all [noRoB]
    · refine noRoB_recs (bs := r) ?_ hm
      cases p <;> simp only [noRoB, Bool.and_eq_true] at h <;> first | exact h.2 | exact h | exact absurd h (by simp)

theorem noRo_RCs {E' : Env} {L Lc : Leaves} {ps : List Pat} {vs : Array Value} (hi : ∀ t I, E.info t = some I → E'.info t = some I) (hp : noRos ps = true) (h : RCs RT E (fAtoms L Lc ps) vs) :
    RCs RT E' (fAtoms L Lc ps) vs := by
  refine ⟨h.1, fun j x hj => ?_⟩
  have := h.2 j x hj
  rw [fAtoms_eq, List.getElem?_map] at hj
  cases hq : ps[j]? with
  | none => simp [hq] at hj
  | some p =>
    simp [hq] at hj
    subst hj
    exact noRo_R hi (noRos_get hp (List.mem_of_getElem? hq)) this

theorem noRo_RV {E' : Env} {L Lc : Leaves} {p : VPat} {u : Value} (hi : ∀ t I, E.info t = some I → E'.info t = some I) (hp : noRoV p = true) (h : RV RT E (fAV L Lc p) u) : RV RT E' (fAV L Lc p) u := by
  cases p with
  | «at» p => exact noRo_R (p := p) hi hp h
  | agg ps => obtain ⟨vs, rfl, hc⟩ := h; exact ⟨vs, rfl, noRo_RCs hi hp hc⟩
  | tup ps => simp [noRoV] at hp

theorem noRo_blk {E' : Env} {L Lc : Leaves} {p : BPat} {b : Blk} {I : Info} {f : Nat × Nat → Prop} (hi : ∀ t I, E.info t = some I → E'.info t = some I)
    (hp : ∀ wd ps, p = .cells wd ps → noRos ps = true) (hpr : (∀ g T h, p ≠ .recs g T h) ∧ (∀ g T h, p ≠ .frecs g T h) ∧ (∀ k h hi t, p ≠ .fhole k h hi t)) (hb : fBlk L Lc p = some b) (ok : BlkOK RT E b I f w) : BlkOK RT E' b I f w where
  own := ok.own
  cap := ok.cap
  live := ok.live
  kind := by
    have hk := ok.kind
    cases p with
    | cells wd ps =>
      simp only [fBlk, Option.some.injEq] at hb
      subst hb
      refine ⟨hk.1, hk.2.1, hk.2.2.1, fun j x hj => ?_⟩
      obtain ⟨v, hv, hr⟩ := hk.2.2.2 j x hj
      refine ⟨v, hv, ?_⟩
      rw [fAtoms_eq, List.getElem?_map] at hj
      cases hq : ps[j]? with
      | none => simp [hq] at hj
      | some p =>
        simp [hq] at hj
        subst hj
        exact noRo_R hi (noRos_get (hp _ _ rfl) (List.mem_of_getElem? hq)) hr
    | ints g k i => simp only [fBlk, Option.some.injEq] at hb; subst hb; exact hk
    | fints g k i => simp only [fBlk, Option.some.injEq] at hb; subst hb; exact hk
    | recs g T i => exact absurd rfl (hpr.1 g T i)
    | frecs g T i => exact absurd rfl (hpr.2.1 g T i)
    | fhole k i hi t => exact absurd rfl (hpr.2.2 k i hi t)
    | dead => simp [fBlk] at hb

/-- Names that moved are forgotten. -/
theorem scrub_R {E' : Env} {mov : List Nat} {x : Atom} {u : Value} (hi : ∀ t I, t ∉ mov → E.info t = some I → E'.info t = some I) (hM : ∀ a v, E.M a = some v → E'.M a = some v) (hRT : RTok RT)
    (h : R RT E x u) : R RT E' (scrubA mov x) u := by
  have key : ∀ {t : Nat}, mem mov t = false → t ∉ mov := fun {t} hb hm => by rw [mem_iff.2 hm] at hb; simp at hb
  cases h with
  | unk => exact .unk _
  | bool b => exact .bool b
  | int k n => exact .int k n
  | str s => exact .str s
  | nilp => exact .nilp
  | ptr h =>
    simp only [scrubA]
    split
    · exact .unk _
    · rename_i hb; exact .ptr (hi _ _ (key hb) h)
  | eptr h h1 h2 =>
    simp only [scrubA]
    split
    · exact .unk _
    · rename_i hb; exact .eptr (hi _ _ (key hb) h) h1 h2
  | nils => exact .nils
  | full h hb hn hc hg =>
    simp only [scrubA]
    split
    · exact .unk _
    · rename_i hb'; exact .full (hi _ _ (key hb') h) hb hn hc hg
  | sub h hw hl hc hb =>
    simp only [scrubA]
    split
    · exact .unk _
    · rename_i hb'; exact .sub (hi _ _ (key hb') h) hw hl hc hb
  | roi hc hx => exact .roi hc fun i h => let ⟨a, h1, h2, h3⟩ := hx i h; ⟨a, h1, h2, hM _ _ h3⟩
  | ror uu hT hc hx hr =>
    exact .ror uu hT hc (fun i j hi hj => let ⟨a, h1, h2, h3⟩ := hx i j hi hj; ⟨a, h1, h2, hM _ _ h3⟩) fun i j hi hj => (hr i j hi hj).simple hM (hRT _ _ _ _ hT)
  | rop => exact .unk _
  | @fn f cap vs hn hr =>
    cases f with
    | func f =>
      cases cap with
      | nil => exact .fn hn fun j x hj => by simp at hj
      | cons c cs => exact .unk _
    | _ => exact .unk _
  | nilf => exact .nilf
  | nili => exact .nili
  | und => exact .unk _
  | @ifa t x v hr =>
    cases hr with
    | ptr h =>
      simp only [scrubA]
      split
      · exact .unk _
      · rename_i hb; exact .ifa (.ptr (hi _ _ (key hb) h))
    | _ => exact .unk _
  | ifg hn hr => simp only [scrubA]; exact .unk _

theorem scrubAs_eq (mov : List Nat) : ∀ as : List Atom, scrubAs mov as = as.map (scrubA mov)
  | [] => rfl
  | p :: ps => by simp [scrubAs, scrubAs_eq mov ps]

theorem scrubT_eq (mov : List Nat) : ∀ as : List (Bool × List Atom), scrubT mov as = as.map fun p => (p.1, scrubAs mov p.2)
  | [] => rfl
  | (g, p) :: ps => by simp [scrubT, scrubT_eq mov ps]

theorem scrub_RCs {E' : Env} {mov : List Nat} {cs : List Atom} {vs : Array Value} (hi : ∀ t I, t ∉ mov → E.info t = some I → E'.info t = some I) (hM : ∀ a v, E.M a = some v → E'.M a = some v) (hRT : RTok RT)
    (h : RCs RT E cs vs) : RCs RT E' (scrubAs mov cs) vs := by
  rw [scrubAs_eq]
  refine ⟨by rw [h.1]; simp, fun j x hj => ?_⟩
  rw [List.getElem?_map] at hj
  cases hq : cs[j]? with
  | none => simp [hq] at hj
  | some x' =>
    simp [hq] at hj
    subst hj
    exact scrub_R hi hM hRT (h.2 j x' hq)

theorem scrub_RV {E' : Env} {mov : List Nat} {x : AV} {u : Value} (hi : ∀ t I, t ∉ mov → E.info t = some I → E'.info t = some I) (hM : ∀ a v, E.M a = some v → E'.M a = some v) (hRT : RTok RT)
    (h : RV RT E x u) : RV RT E' (scrubAV mov x) u := by
  cases x with
  | «at» x => exact scrub_R (x := x) hi hM hRT h
  | agg cs => obtain ⟨vs, rfl, hc⟩ := h; exact ⟨vs, rfl, scrub_RCs hi hM hRT hc⟩
  | tup ps =>
    obtain ⟨vs, rfl, hn, hc⟩ := h
    refine ⟨vs, rfl, by rw [hn, scrubT_eq]; simp, fun j q hj => ?_⟩
    rw [scrubT_eq, List.getElem?_map] at hj
    cases hq : ps[j]? with
    | none => simp [hq] at hj
    | some q' =>
      simp [hq] at hj
      subst hj
      have := hc j q' hq
      obtain ⟨g, cs⟩ := q'
      cases g with
      | true => obtain ⟨vs', he, hc'⟩ := this; exact ⟨vs', he, scrub_RCs hi hM hRT hc'⟩
      | false =>
        match cs, this with
        | [x], this => exact scrub_R (x := x) hi hM hRT this

theorem scrub_blk {E' : Env} {mov : List Nat} {b b' : Blk} {I : Info} {f : Nat × Nat → Prop} (hi : ∀ t I, t ∉ mov → E.info t = some I → E'.info t = some I) (hM : ∀ a v, E.M a = some v → E'.M a = some v) (hRT : RTok RT)
    (hb : scrubB mov (some b) = some b') (ok : BlkOK RT E b I f w) : BlkOK RT E' b' I f w where
  own := ok.own
  cap := ok.cap
  live := ok.live
  kind := by
    have hk := ok.kind
    cases b with
    | cells wd cs =>
      simp only [scrubB, Option.some.injEq] at hb
      subst hb
      refine ⟨hk.1, by rw [hk.2.1, scrubAs_eq]; simp, hk.2.2.1, fun j x hj => ?_⟩
      rw [scrubAs_eq, List.getElem?_map] at hj
      cases hq : cs[j]? with
      | none => simp [hq] at hj
      | some x' =>
        simp [hq] at hj
        subst hj
        obtain ⟨v, hv, hr⟩ := hk.2.2.2 j x' hq
        exact ⟨v, hv, scrub_R hi hM hRT hr⟩
    | ints g k xs => simp only [scrubB, Option.some.injEq] at hb; subst hb; exact hk
    | recs g T xs =>
      simp only [scrubB, Option.some.injEq] at hb; subst hb
      exact ⟨hk.1, hk.2.1, hk.2.2.1, fun i j x hi hj => let ⟨v, hv, hr⟩ := hk.2.2.2 i j x hi hj; ⟨v, hv, recA_R hj hM hr⟩⟩
    | hole kd xss i0 b0 =>
      simp only [scrubB] at hb
      split at hb
      · simp at hb
      · rename_i hb0
        simp only [Option.some.injEq] at hb; subst hb
        have hnm : b0 ∉ mov := fun hm => by rw [mem_iff.2 hm] at hb0; simp at hb0
        refine ⟨hk.1, hk.2.1, fun i hi' => ?_⟩
        obtain ⟨v, hv, hr⟩ := hk.2.2 i hi'
        refine ⟨v, hv, ?_⟩
        split at hr
        · rename_i he; rw [if_pos he]; cases hr with | full h hb hn hc hg => exact .full (hi _ _ hnm h) hb hn hc hg
        · rename_i he; rw [if_neg he]; exact roi_R hM hr

theorem movOk_get : ∀ {l : List Nat} {t : Nat}, movOk C l = true → t ∈ l → C.hi ≤ t ∨ t ∈ C.mv
  | [], t, _, h => by simp at h
  | t' :: r, t, h, hm => by
    simp only [movOk, Bool.and_eq_true, Bool.or_eq_true] at h
    rcases List.mem_cons.1 hm with rfl | hm
    · exact h.1.imp (by simp) mem_iff.1
    · exact movOk_get h.2 hm

/-- BEHIND A LOOP. -/
theorem behind {A : Ann} {G : List Nat} {c : Code} {Lc L' : Leaves} {nx n : Nat} {E0 : Env} {H0 : Heap} {fp0 : Fp} {Ex : Env} {fpx : Fp} {w' : World} {a' : Act} (hRT : RTok C.RT) (hok : annOk C A = true) (hnx : nx ≤ A.nx)
    (st : St C.RT E H fp w F a nx n) (hE0 : ∀ t, t < A.nx → t ∉ A.mov → E0.info t = E.info t)
    (hown0 : ∀ x, OwnAll H0 fp0 x → ∃ id b, (id ∈ ids A.blks ∨ id ∈ G) ∧ H id = some b ∧ fp id x)
    (sx : St C.RT Ex (fHeap L' Lc noHeap A.xblks) fpx w' (fSlots L' Lc noFr A.xslots) a' A.nx n)
    (hx : ∀ t I, Ex.info t = some I → t < A.nx ∧ t ∈ ids A.blks ∧ (t ∈ A.mov ∨ E0.info t = some I)) (hfrm : Frm w (OwnAll H0 fp0) w')
    (hown : ∀ x, OwnAll (fHeap L' Lc noHeap A.xblks) fpx x → x.1 < w.heap.size → OwnAll H0 fp0 x) (hsame : Same (asg c) a a')
    (hpl : A.plain = false → (∀ ad v, E.M ad = some v → Ex.M ad = some v) ∧ MExt E H0 fp0 w Ex) :
    ∃ E' fp', St C.RT E' (heapBehind A G L' Lc H) fp' w' (frBehind A c L' Lc F) a' A.nx n ∧ Trip C E H fp w nx E' (heapBehind A G L' Lc H) fp' w' A.nx := by
  unfold annOk at hok
  simp only [Bool.and_eq_true] at hok
  obtain ⟨hoL, hoM, hoD, hoX⟩ := hok
  let E' : Env := ⟨fun id => if id < A.nx then (if id ∈ A.mov ∧ id ∈ ids A.blks then Ex.info id else E.info id) else none, if A.plain = true then E.M else Ex.M⟩
  have hMle : ∀ ad v, E.M ad = some v → E'.M ad = some v := by
    intro ad v h
    simp only [E']
    split
    · exact h
    · rename_i hp
      exact (hpl (by simpa using hp)).1 ad v h
  have hMx : A.plain = false → ∀ ad v, Ex.M ad = some v → E'.M ad = some v := by
    intro hp ad v h
    simp only [E', hp]
    exact h
  have hExt : MExt E H0 fp0 w E' := by
    intro ad v h
    simp only [E'] at h
    split at h
    · exact Or.inl h
    · rename_i hp
      exact (hpl (by simpa using hp)).2 ad v h
  let fp' : Fp := fun id => if id ∈ ids A.blks then fpx id else fp id
  have hix : ∀ t I, Ex.info t = some I → E'.info t = some I := by
    intro t I hI
    obtain ⟨h1, h2, h3⟩ := hx t I hI
    simp only [E', if_pos h1]
    split
    · exact hI
    · rename_i hm
      have hm' : t ∉ A.mov := fun h => hm ⟨h, h2⟩
      rcases h3 with h3 | h3
      · exact absurd h3 hm'
      · rw [← hE0 t h1 hm']; exact h3
  have hie : ∀ t I, t ∉ A.mov → E.info t = some I → E'.info t = some I := by
    intro t I hm hI
    have ht : t < A.nx := by
      rcases Nat.lt_or_ge t nx with h | h
      · omega
      · rw [st.fresh t h] at hI; simp at hI
    simp only [E', if_pos ht, if_neg (fun h : t ∈ A.mov ∧ t ∈ ids A.blks => hm h.1)]
    exact hI
  have hfr' : Fresh E' A.nx := fun id hid => by simp only [E']; rw [if_neg (by omega)]
  have hapart : ∀ {id b x}, H id = some b → (id ∉ ids A.blks ∧ id ∉ G) → fp id x → ¬ OwnAll H0 fp0 x := by
    intro id b x hb hn hx' ho
    obtain ⟨id', b', h1, h2, h3⟩ := hown0 x ho
    exact st.sim.disj id id' b b' x hb h2 (fun he => h1.elim (fun h => hn.1 (he ▸ h)) (fun h => hn.2 (he ▸ h))) hx' h3
  have hheap : ∀ {id b}, heapBehind A G L' Lc H id = some b → (id ∈ ids A.blks ∧ fHeap L' Lc noHeap A.xblks id = some b) ∨ ((id ∉ ids A.blks ∧ id ∉ G) ∧ ∃ b0, H id = some b0 ∧ scrubB A.mov (some b0) = some b) := by
    intro id b hb
    unfold heapBehind at hb
    rcases fHeap_over L' Lc A.xblks id with ⟨h1, h2⟩ | ⟨h1, h2⟩
    · rw [h2] at hb
      obtain ⟨I, hI, _⟩ := sx.sim.blk id b hb
      exact Or.inl ⟨(hx id I hI).2.1, hb⟩
    · rw [h2] at hb
      split at hb
      · simp at hb
      · rename_i hm
        have hn : id ∉ ids A.blks ∧ id ∉ G := ⟨fun h => by rw [mem_iff.2 h] at hm; simp at hm, fun h => by rw [mem_iff.2 h] at hm; simp at hm⟩
        cases hH : H id with
        | none => rw [hH] at hb; simp [scrubB] at hb
        | some b0 => rw [hH] at hb; exact Or.inr ⟨hn, b0, rfl, hb⟩
  have hown' : ∀ x, OwnAll (heapBehind A G L' Lc H) fp' x → x.1 < w.heap.size → OwnAll H fp x := by
    rintro x ⟨id, b, hb, hx'⟩ hlt
    rcases hheap hb with ⟨h1, h2⟩ | ⟨h1, b0, h2, _⟩
    · simp only [fp', if_pos h1] at hx'
      obtain ⟨id', b', _, h3, h4⟩ := hown0 x (hown x ⟨id, b, h2, hx'⟩ hlt)
      exact ⟨id', b', h3, h4⟩
    · simp only [fp', if_neg h1.1] at hx'
      exact ⟨id, b0, h2, hx'⟩
  refine ⟨E', fp', ⟨⟨fun id b hb => ?_, fun i j b b' x hb hb' hij hxi hxj => ?_, fun ad v hm => ?_⟩, hfr', fun j => ?_, sx.size, sx.df⟩, ⟨fun id I h1 h2 hI => ?_, hMle, ?_, hown', hnx, hfr', ?_⟩⟩
  · rcases hheap hb with ⟨h1, h2⟩ | ⟨h1, b0, h2, h3⟩
    · obtain ⟨I, hI, ok⟩ := sx.sim.blk id b h2
      refine ⟨I, hix _ _ hI, ?_⟩
      simp only [fp', if_pos h1]
      rcases fHeap_get L' Lc noHeap h2 with ⟨q, hq, _, hfb⟩ | ⟨h, _⟩
      · cases hp : A.plain with
        | true =>
          have hp' := hp
          simp only [Ann.plain, Bool.and_eq_true] at hp'
          exact noRo_blk hix (fun wd ps he => noRoB_get hp'.2 hq he) (noRoB_recs hp'.2 hq) hfb ok
        | false => exact ok.mono ⟨hix, hMx hp⟩
      · simp [noHeap] at h
    · obtain ⟨I, hI, ok⟩ := st.sim.blk id b0 h2
      refine ⟨I, ?_, ?_⟩
      · have ht : id < A.nx := by
          rcases Nat.lt_or_ge id nx with h | h
          · omega
          · rw [st.fresh id h] at hI; simp at hI
        simp only [E', if_pos ht, if_neg (fun h : id ∈ A.mov ∧ id ∈ ids A.blks => h1.1 h.2)]
        exact hI
      · simp only [fp', if_neg h1.1]
        exact scrub_blk hie hMle hRT h3 (ok.frm hfrm fun x hx => hapart h2 h1 hx)
  · rcases hheap hb with ⟨h1, h2⟩ | ⟨h1, b0, h2, _⟩ <;> rcases hheap hb' with ⟨g1, g2⟩ | ⟨g1, c0, g2, _⟩
    · simp only [fp', if_pos h1] at hxi
      simp only [fp', if_pos g1] at hxj
      exact sx.sim.disj _ _ _ _ x h2 g2 hij hxi hxj
    · simp only [fp', if_pos h1] at hxi
      simp only [fp', if_neg g1.1] at hxj
      exact hapart g2 g1 hxj (hown x ⟨i, b, h2, hxi⟩ (st.sim.cell_lt g2 hxj))
    · simp only [fp', if_neg h1.1] at hxi
      simp only [fp', if_pos g1] at hxj
      exact hapart h2 h1 hxi (hown x ⟨j, b', g2, hxj⟩ (st.sim.cell_lt h2 hxi))
    · simp only [fp', if_neg h1.1] at hxi
      simp only [fp', if_neg g1.1] at hxj
      exact st.sim.disj _ _ _ _ x h2 g2 hij hxi hxj
  · have hold : ∀ {ad v}, E.M ad = some v → ad.spot = none ∧ w'.cell? ad = some v ∧ ∀ i b, heapBehind A G L' Lc H i = some b → ¬ fp' i (ad.block, ad.off) := by
      intro ad v hm
      obtain ⟨h1, h2, h3⟩ := st.sim.ro ad v hm
      have hno : ¬ OwnAll H0 fp0 (ad.block, ad.off) := by
        intro ho
        obtain ⟨id, b, _, g2, g3⟩ := hown0 _ ho
        exact h3 id b g2 g3
      refine ⟨h1, hfrm.cell h2 hno, fun i b hb hxi => ?_⟩
      rcases hheap hb with ⟨g1, g2⟩ | ⟨g1, b0, g2, _⟩
      · simp only [fp', if_pos g1] at hxi
        exact hno (hown _ ⟨i, b, g2, hxi⟩ (World.block_lt_of_cell? _ _ h2))
      · simp only [fp', if_neg g1.1] at hxi
        exact h3 i b0 g2 hxi
    simp only [E'] at hm
    split at hm
    · exact hold hm
    · rename_i hp
      have hp' : A.plain = false := by simpa using hp
      obtain ⟨h1, h2, h3⟩ := sx.sim.ro ad v hm
      refine ⟨h1, h2, fun i b hb hxi => ?_⟩
      rcases hheap hb with ⟨g1, g2⟩ | ⟨g1, b0, g2, _⟩
      · simp only [fp', if_pos g1] at hxi
        exact h3 i b g2 hxi
      · simp only [fp', if_neg g1.1] at hxi
        rcases (hpl hp').2 ad v hm with hx' | hx' | hx'
        · exact (st.sim.ro ad v hx').2.2 i b0 g2 hxi
        · have := st.sim.cell_lt g2 hxi
          simp only at this
          omega
        · exact hapart g2 g1 hxi hx'
  · unfold frBehind
    have hsx := sx.rf j
    rcases fSlots_get L' Lc A.xslots j with ⟨q, hq, rfl, hv⟩ | hv
    · rw [hv] at hsx ⊢
      cases hp : A.plain with
      | true =>
        have hp' := hp
        simp only [Ann.plain, Bool.and_eq_true] at hp'
        exact noRo_RV hix (noRoS_get hp'.1 hq) hsx
      | false => exact hsx.mono ⟨hix, hMx hp⟩
    · rw [hv]
      split
      · exact R.unk _
      · rename_i hg
        rw [hsame j hg]
        exact scrub_RV hie hMle hRT (st.rf j)
  · refine hie id I ?_ hI
    intro hm
    rcases movOk_get hoM hm with h | h
    · omega
    · exact h2 h
  · exact hfrm.mono fun x ho => let ⟨id, b, _, g2, g3⟩ := hown0 x ho; ⟨id, b, g2, g3⟩
  · intro ad v h
    rcases hExt ad v h with h | h | h
    · exact Or.inl h
    · exact Or.inr (Or.inl h)
    · exact Or.inr (Or.inr (let ⟨id, b, _, g2, g3⟩ := hown0 _ h; ⟨id, b, g2, g3⟩))

theorem CfgOK.inLoop (hC : CfgOK C) (A : Ann) : CfgOK (C.inLoop A) := ⟨hC.rt, hC.wide, hC.specs, hC.exts, hC.meths, hC.laws⟩

theorem Post.mono_asg {Z : Type} {z : Z} {kr : KS Z} {k : Ex → KS Z} {nx n : Nat} {g g' : Nat → Bool} (hg : ∀ j, g j = true → g' j = true) {e : Exit} {a' : Act} {w' : World}
    (h : Post C z kr k E H fp w nx a n g e a' w') : Post C z kr k E H fp w nx a n g' e a' w' := by
  cases e with
  | normal => obtain ⟨F', H', nx', E', fp', h1, h2, h3, h4⟩ := h; exact ⟨F', H', nx', E', fp', h1, h2, h3, h4.mono hg⟩
  | exit id => obtain ⟨F', H', nx', E', fp', h1, h2, h3, h4⟩ := h; exact ⟨F', H', nx', E', fp', h1, h2, h3, h4.mono hg⟩
  | ret => obtain ⟨F', H', nx', E', fp', h1, h2, h3, h4⟩ := h; exact ⟨F', H', nx', E', fp', h1, h2, h3, h4.mono hg⟩
  | _ => exact h.elim

/-- From a later state on. -/
theorem Post.after {Z : Type} {z : Z} {kr : KS Z} {k : Ex → KS Z} {nx nx1 n : Nat} {g : Nat → Bool} {E1 : Env} {H1 : Heap} {fp1 : Fp} {w1 : World} {a1 : Act}
    (ht : Trip C E H fp w nx E1 H1 fp1 w1 nx1) (hs : Same g a a1) {e : Exit} {a' : Act} {w' : World}
    (h : Post C z kr k E1 H1 fp1 w1 nx1 a1 n g e a' w') : Post C z kr k E H fp w nx a n g e a' w' := by
  cases e with
  | normal => obtain ⟨F', H', nx', E', fp', h1, h2, h3, h4⟩ := h; exact ⟨F', H', nx', E', fp', h1, h2, ht.trans h3, hs.trans h4⟩
  | exit id => obtain ⟨F', H', nx', E', fp', h1, h2, h3, h4⟩ := h; exact ⟨F', H', nx', E', fp', h1, h2, ht.trans h3, hs.trans h4⟩
  | ret => obtain ⟨F', H', nx', E', fp', h1, h2, h3, h4⟩ := h; exact ⟨F', H', nx', E', fp', h1, h2, ht.trans h3, hs.trans h4⟩
  | _ => exact h.elim

def AnnsOK (K : FCfg) : Prop := ∀ q ∈ K.anns, AnnOK q.2

theorem unroll_rounds {K : FCfg} {inl : Inl} {c : Code} {Z : Type} {z : Z} {kr : KS Z} {k : Ex → KS Z} {n : Nat} (hb : CodeOK C K inl c) (hd : dstsOk n c = true) :
    ∀ (N : Nat) (F : Fr) (H : Heap) (nx : Nat) (E : Env) (fp : Fp) (w : World) (a : Act), unrollF (evCode C K inl c) kr k N F H nx = some z → St C.RT E H fp w F a nx n →
      Code.rounds C.P c (Post C z kr k E H fp w nx a n (asg c)) N a w
  | 0, F, H, nx, E, fp, w, a, hk, _ => by simp [unrollF] at hk
  | N + 1, F, H, nx, E, fp, w, a, hk, st => by
    simp only [unrollF] at hk
    rw [rounds_succ]
    refine wp_mono (hb Z z _ _ _ _ _ E fp w a n hk st hd) fun e a' w' hq => ?_
    cases e with
    | normal =>
      obtain ⟨F', H', nx', E', fp', h1, h2, h3, h4⟩ := hq
      have := unroll_rounds hb hd N F' H' nx' E' fp' w' a' h1 h2
      refine rounds_mono N (fun e a'' w'' h => Post.after h3 h4 h) this
    | exit id => obtain ⟨F', H', nx', E', fp', h1, h2, h3, h4⟩ := hq; exact ⟨F', H', nx', E', fp', h1, h2, h3, h4⟩
    | ret => obtain ⟨F', H', nx', E', fp', h1, h2, h3, h4⟩ := hq; exact ⟨F', H', nx', E', fp', h1, h2, h3, h4⟩
    | _ => exact hq.elim
where
  rounds_mono {P : Program} {c : Code} {Q Q' : Exit → Act → World → Prop} : ∀ (N : Nat) {a : Act} {w : World}, (∀ e a w, Q e a w → Q' e a w) → Code.rounds P c Q N a w → Code.rounds P c Q' N a w
    | 0, _, _, _, h => h.elim
    | N + 1, a, w, hq, h => by
      rw [rounds_succ] at h ⊢
      refine wp_mono h fun e a' w' hq' => ?_
      cases e with
      | normal => exact rounds_mono N hq hq'
      | _ => exact hq _ _ _ hq'

/-- A LOOP THAT SOMETHING IS TOLD OF. -/
theorem loop_sound (hC : CfgOK C) {K : FCfg} {inl : Inl} {A : Ann} (hA : AnnOK A) {c : Code} (hb : CodeOK (C.inLoop A) K inl c) {Z : Type} {z : Z} {kr : KS Z} {k : Ex → KS Z} {nx n : Nat}
    (hk : gate (annOk C A && Nat.ble nx A.nx) (mState A.nx H none F A.slots A.blks fun m =>
        gate (namedOnly (ids A.blks) 0 m.σ && (viewsIn A.mov nx 0 m.σ && (viewsApart m.σ && (lentApart m.σ m.lent && A.lentOk m.lent)))) (match A.ret with
          | false => obind (loopF A m.fixed (evCode (C.inLoop A) K inl c) C.N m.leaves) fun t =>
              k (.exit A.exId) (frBehind A c (A.enc t) m.fixed F) (heapBehind A (wholeIds m.σ) (A.enc t) m.fixed H) A.nx
          | true => osum (loopR A m.fixed (evCode (C.inLoop A) K inl c) kr C.N m.leaves) fun t =>
              k (.exit A.exId) (frBehind A c (A.enc t) m.fixed F) (heapBehind A (wholeIds m.σ) (A.enc t) m.fixed H) A.nx)) = some z)
    (st : St C.RT E H fp w F a nx n) (hd : dstsOk n c = true) : (Code.loop c).wp C.P (Post C z kr k E H fp w nx a n (asg c)) a w := by
  rw [gate_some] at hk
  obtain ⟨hg, hk⟩ := hk
  simp only [Bool.and_eq_true] at hg
  obtain ⟨hok, hnx⟩ := hg
  have hnx : nx ≤ A.nx := by simpa using hnx
  simp only [mState] at hk
  obtain ⟨m1, h1, e1, k1⟩ := mSlots_sound hk
  obtain ⟨m, h2, e2, k2⟩ := mBlks_sound h1
  rw [gate_some] at h2
  obtain ⟨hg, h2⟩ := h2
  simp only [Bool.and_eq_true] at hg
  obtain ⟨hn, hvi, hva, hla, hlo⟩ := hg
  have hsl := k1 m e2
  have hbl := k2 m (.refl m)
  simp only [lcOf] at hsl hbl
  have hlen : m.σ.length = A.nx := by rw [(e1.trans e2).σlen]; exact nones_length _
  have hv : ∀ t v, m.σ[t]? = some v → v = .none ∨ t ∈ A.mov ∨ v = .whole t := by
    intro t v h
    rcases viewsIn_get hvi h with h | h | ⟨h, _⟩
    · exact Or.inl h
    · rw [Nat.zero_add] at h; exact Or.inr (Or.inr h)
    · rw [Nat.zero_add] at h; exact Or.inr (Or.inl h)
  have hp : ∀ (t id lo n : Nat) g kd xs, m.σ[t]? = some (.part id lo n) → H id = some (.ints g kd xs) → lo + n ≤ xs.length := by
    intro t id lo n g kd xs h _
    rcases viewsIn_get hvi h with h | h | ⟨_, _, h | ⟨_, h⟩⟩ <;> simp at h
  have hle := baseL_le (E := E) (H := H) (fp := fp) (w := w) (lent := m.lent) hlen hv
  have hbase := Sim.base hC.rt st.sim hbl hva hla hp
  have hsim := hbase.le hle (fun _ _ h => h)
  have hrf := (base_rf hC.rt st.sim st.rf hsl).mono hle
  have hok' := hok
  unfold annOk at hok'
  simp only [Bool.and_eq_true] at hok'
  obtain ⟨hoL, hoM, hoD, _⟩ := hok'
  have hst0 : St C.RT (baseL E H fp w m.σ m.lent A.mov A.nx) (fHeap m.leaves m.fixed noHeap A.blks) (baseFp E fp m.σ) w (fSlots m.leaves m.fixed noFr A.slots) a A.nx n :=
    ⟨hsim, fun id hid => by simp only [baseL]; rw [if_neg (by omega)], hrf, st.size, st.df⟩
  have hhead : Head C A m.fixed (baseL E H fp w m.σ m.lent A.mov A.nx) (fHeap m.leaves m.fixed noHeap A.blks) (baseFp E fp m.σ) w a n (asg c) m.leaves
      (baseL E H fp w m.σ m.lent A.mov A.nx) (baseFp E fp m.σ) w a :=
    ⟨hst0, ⟨fun _ _ _ _ h => h, fun _ _ h => h, .refl _ _, fun _ h _ => h, .refl _ _ _ _⟩, .refl _ _⟩
  have hlive : ∀ t ∈ ids A.blks, ∃ J, (baseL E H fp w m.σ m.lent A.mov A.nx).info t = some J := by
    intro t ht
    obtain ⟨p, hp'⟩ := ids_mem.1 ht
    have hb' := fHeap_live (L := m.leaves) (Lc := m.fixed) hoD hp'
    obtain ⟨b, hb0⟩ := (fBlk_live (L := m.leaves) (Lc := m.fixed)).1 (allLive_get hoL hp')
    rw [hb0] at hb'
    obtain ⟨I, hI, _⟩ := hsim.blk t b hb'
    exact ⟨I, hI⟩
  have hE0 : ∀ t, t < A.nx → t ∉ A.mov → (baseL E H fp w m.σ m.lent A.mov A.nx).info t = E.info t := fun t h1 h2 => by simp only [baseL, if_pos h1, if_neg h2]
  have hown0 : ∀ x, OwnAll (fHeap m.leaves m.fixed noHeap A.blks) (baseFp E fp m.σ) x → ∃ id b, (id ∈ ids A.blks ∨ id ∈ wholeIds m.σ) ∧ H id = some b ∧ fp id x := by
    rintro x ⟨t, b, hb', hx⟩
    obtain ⟨v, id, b', g1, g2, g3, g4⟩ := base_own st.sim hbl hp hb' hx
    refine ⟨id, b', ?_, g3, g4⟩
    rcases viewsIn_get hvi g1 with rfl | rfl | ⟨_, _, rfl | ⟨id', rfl⟩⟩
    · simp [viewId] at g2
    · simp only [viewId, Option.some.injEq] at g2
      rw [← g2]; exact Or.inr (wholeIds_mem g1)
    · simp [viewId] at g2
    · simp only [viewId, Option.some.injEq] at g2
      rw [← g2]; exact Or.inr (wholeIds_mem g1)
  -- where it is left
  have hexit : ∀ {L' Ex fpx w' a' t}, t = A.dec L' → k (.exit A.exId) (frBehind A c (A.enc t) m.fixed F) (heapBehind A (wholeIds m.σ) (A.enc t) m.fixed H) A.nx = some z →
      St C.RT Ex (fHeap L' m.fixed noHeap A.xblks) fpx w' (fSlots L' m.fixed noFr A.xslots) a' A.nx n →
      (∀ t I, Ex.info t = some I → t < A.nx ∧ t ∈ ids A.blks ∧ (t ∈ A.mov ∨ (baseL E H fp w m.σ m.lent A.mov A.nx).info t = some I)) →
      Frm w (OwnAll (fHeap m.leaves m.fixed noHeap A.blks) (baseFp E fp m.σ)) w' →
      (∀ x, OwnAll (fHeap L' m.fixed noHeap A.xblks) fpx x → x.1 < w.heap.size → OwnAll (fHeap m.leaves m.fixed noHeap A.blks) (baseFp E fp m.σ) x) → Same (asg c) a a' →
      (A.plain = false → (∀ ad v, (baseL E H fp w m.σ m.lent A.mov A.nx).M ad = some v → Ex.M ad = some v) ∧ MExt (baseL E H fp w m.σ m.lent A.mov A.nx) (fHeap m.leaves m.fixed noHeap A.blks) (baseFp E fp m.σ) w Ex) →
      Post C z kr k E H fp w nx a n (asg c) (.exit A.exId) a' w' := by
    rintro L' Ex fpx w' a' t rfl hkk sx hx hfrm hown hsame hpl
    obtain ⟨E', fp', g1, g2⟩ := behind hC.rt hok hnx st hE0 hown0 sx hx hfrm hown hsame fun hp => by
      obtain ⟨p1, p2⟩ := hpl hp
      have hl : noLent m.lent = true := by simpa [Ann.lentOk, hp] using hlo
      refine ⟨fun ad v h => p1 ad v (baseE_M (H := H) (fp := fp) (w := w) (σ := m.σ) (lent := m.lent) h), fun ad v h => ?_⟩
      rcases p2 ad v h with h | h | h
      · exact Or.inl (baseE_none (σ := m.σ) hl h)
      · exact Or.inr (Or.inl h)
      · exact Or.inr (Or.inr h)
    obtain ⟨q1, q2⟩ := hA L' m.fixed
    unfold frBehind heapBehind at hkk
    rw [fSlots_congr q1, fHeap_congr q2] at hkk
    exact ⟨_, _, _, E', fp', hkk, g1, g2, hsame⟩
  split at h2
  · rw [obind_some] at h2
    obtain ⟨t, ht, hkk⟩ := h2
    rw [loopF_eq] at ht
    refine wp_loop_rounds C.N (unroll_rounds.rounds_mono C.N (fun e a' w' hq => ?_) (loop_rounds hC.rt hb hd hlive C.N m.leaves _ _ w a ht hhead))
    cases e with
    | exit id =>
      obtain ⟨rfl, L', Ex, fpx, q1, q2, q3, q4, q5, q6, q7⟩ := hq
      exact hexit q1.symm hkk q2 q3 q4 q5 q6 q7
    | ret => obtain ⟨F', H', nx', E', fp', q1, _⟩ := hq; simp at q1
    | _ => exact hq.elim
  · unfold osum at h2
    split at h2
    · rename_i t ht
      rw [loopR_eq] at ht
      refine wp_loop_rounds C.N (unroll_rounds.rounds_mono C.N (fun e a' w' hq => ?_) (loop_rounds hC.rt hb hd hlive C.N m.leaves _ _ w a ht hhead))
      cases e with
      | exit id =>
        obtain ⟨rfl, L', Ex, fpx, q1, q2, q3, q4, q5, q6, q7⟩ := hq
        simp only [Sum.inl.injEq] at q1
        exact hexit q1.symm h2 q2 q3 q4 q5 q6 q7
      | ret =>
        obtain ⟨F', H', nx', E', fp', q1, _⟩ := hq
        cases hkr : kr F' H' nx' <;> simp [omap, hkr] at q1
      | _ => exact hq.elim
    · rename_i z' ht
      simp only [Option.some.injEq] at h2
      subst h2
      rw [loopR_eq] at ht
      refine wp_loop_rounds C.N (unroll_rounds.rounds_mono C.N (fun e a' w' hq => ?_) (loop_rounds hC.rt hb hd hlive C.N m.leaves _ _ w a ht hhead))
      cases e with
      | exit id =>
        obtain ⟨rfl, L', Ex, fpx, q1, _⟩ := hq
        simp at q1
      | ret =>
        obtain ⟨F', H', nx', E', fp', q1, q2, q3, q4, q5⟩ := hq
        have hkr : kr F' H' nx' = some z' := by
          cases hkr : kr F' H' nx' with
          | none => simp [omap, hkr] at q1
          | some z'' => simp [omap, hkr] at q1; rw [q1]
        refine ⟨F', H', nx', E', fp', hkr, q2, ⟨fun id I h1 h2 hI => ?_, fun ad v h => q3.M ad v (baseE_M (H := H) (fp := fp) (w := w) (σ := m.σ) (lent := m.lent) h), ?_, fun x hx hlt => ?_, Nat.le_trans hnx q4, q2.fresh, fun ad v h => ?_⟩, q5⟩
        · have hid : id < A.nx := by
            rcases Nat.lt_or_ge id nx with h | h
            · omega
            · rw [st.fresh id h] at hI; simp at hI
          have hmv : id ∉ A.mov := by
            intro hm
            rcases movOk_get hoM hm with h | h
            · omega
            · exact h2 h
          exact q3.keep id I hid hmv (by rw [hE0 id hid hmv]; exact hI)
        · exact q3.frm.mono fun x ho => let ⟨id, b, _, g2, g3⟩ := hown0 x ho; ⟨id, b, g2, g3⟩
        · obtain ⟨id, b, _, g2, g3⟩ := hown0 x (q3.own x hx hlt)
          exact ⟨id, b, g2, g3⟩
        · rcases q3.ext ad v h with h | h | h
          · exact baseE_ext (σ := m.σ) (lent := m.lent) ad v h
          · exact Or.inr (Or.inl h)
          · exact Or.inr (Or.inr (let ⟨id, b, _, g2, g3⟩ := hown0 _ h; ⟨id, b, g2, g3⟩))
      | _ => exact hq.elim
    · simp at h2

/-- CODE. -/
theorem evCode_sound {K : FCfg} (hK : AnnsOK K) {inl : Inl} : ∀ (c : Code) (C : Cfg), CfgOK C → InlOK C inl → CodeOK C K inl c := by
  intro c
  induction c with
  | skip =>
    intro C hC hinl Z z kr k F H nx E fp w a n hk st hd
    exact wp_skip ⟨F, H, nx, E, fp, hk, st, .refl st.fresh, .refl _ _⟩
  | region id ops draw =>
    intro C hC hinl Z z kr k F H nx E fp w a n hk st hd
    simp only [evCode] at hk
    cases draw with
    | false =>
      exact wp_region_list (evOps_sound hC hinl hk st hd fun F' H' nx' E' fp' a' w' g1 g2 g3 g4 => ⟨F', H', nx', E', fp', g1, g2, g3, g4⟩)
    | true =>
      exact evDraw_sound hC hk st hd fun F' H' nx' E' fp' a' w' g1 g2 g3 g4 => ⟨F', H', nx', E', fp', g1, g2, g3, g4⟩
  | seq x z ihx ihz =>
    intro C hC hinl Z zz kr k F H nx E fp w a n hk st hd
    simp only [evCode] at hk
    simp only [dstsOk, Bool.and_eq_true] at hd
    refine wp_seq (wp_mono (ihx C hC hinl Z zz kr _ F H nx E fp w a n hk st hd.1) fun e a' w' hq => ?_)
    have hm1 : ∀ j, asg x j = true → asg (.seq x z) j = true := fun j h => by simp [asg, h]
    have hm2 : ∀ j, asg z j = true → asg (.seq x z) j = true := fun j h => by simp [asg, h]
    cases e with
    | normal =>
      obtain ⟨F', H', nx', E', fp', g1, g2, g3, g4⟩ := hq
      exact wp_mono (ihz C hC hinl Z zz kr k F' H' nx' E' fp' w' a' n g1 g2 hd.2) fun e a'' w'' h => Post.after g3 (g4.mono hm1) (h.mono_asg hm2)
    | exit id => obtain ⟨F', H', nx', E', fp', g1, g2, g3, g4⟩ := hq; exact ⟨F', H', nx', E', fp', g1, g2, g3, g4.mono hm1⟩
    | ret => obtain ⟨F', H', nx', E', fp', g1, g2, g3, g4⟩ := hq; exact ⟨F', H', nx', E', fp', g1, g2, g3, g4.mono hm1⟩
    | goto l => exact hq.elim
    | panic ch => exact hq.elim
    | outgrown => exact hq.elim
  | cond x t e iht ihe =>
    intro C hC hinl Z zz kr k F H nx E fp w a n hk st hd
    simp only [evCode] at hk
    simp only [dstsOk, Bool.and_eq_true] at hd
    split at hk
    · rename_i b hb
      have hv : RV C.RT E (evOpd F x) (a.eval x) := opd_sound st.rf x
      rw [hb] at hv
      have hx : a.eval x = .bool b := R.bool_inv hv
      refine wp_cond_split hx (fun hbt => ?_) (fun hbf => ?_)
      · subst hbt
        exact wp_mono (iht C hC hinl Z zz kr k F H nx E fp w a n hk st hd.1) fun e a' w' h => h.mono_asg fun j h => by simp [asg, h]
      · subst hbf
        exact wp_mono (ihe C hC hinl Z zz kr k F H nx E fp w a n hk st hd.2) fun e a' w' h => h.mono_asg fun j h => by simp [asg, h]
    · simp at hk
  | block id c ih =>
    intro C hC hinl Z zz kr k F H nx E fp w a n hk st hd
    simp only [evCode] at hk
    refine wp_block (wp_mono (ih C hC hinl Z zz kr _ F H nx E fp w a n hk st hd) fun e a' w' hq => ?_)
    cases e with
    | normal => exact hq
    | exit id' =>
      obtain ⟨F', H', nx', E', fp', g1, g2, g3, g4⟩ := hq
      simp only at g1
      simp only [Exit.inBlock]
      split at g1
      · rename_i hb
        rw [if_pos (Nat.eq_of_beq_eq_true hb)]
        exact ⟨F', H', nx', E', fp', g1, g2, g3, g4⟩
      · rename_i hb
        rw [if_neg (fun he => by subst he; simp at hb)]
        exact ⟨F', H', nx', E', fp', g1, g2, g3, g4⟩
    | ret => exact hq
    | goto l => exact hq.elim
    | panic ch => exact hq.elim
    | outgrown => exact hq.elim
  | loop c ih =>
    intro C hC hinl Z zz kr k F H nx E fp w a n hk st hd
    simp only [evCode] at hk
    split at hk
    · rename_i A hA
      exact loop_sound hC (hK _ (find_mem hA)) (ih (C.inLoop A) (hC.inLoop A) hinl) hk st hd
    · split at hk
      · rename_i N hN
        exact wp_loop_rounds N (unroll_rounds (ih C hC hinl) hd N F H nx E fp w a hk st)
      · simp [noAnn] at hk
  | exit id =>
    intro C hC hinl Z z kr k F H nx E fp w a n hk st hd
    exact wp_exit ⟨F, H, nx, E, fp, hk, st, .refl st.fresh, .refl _ _⟩
  | ret =>
    intro C hC hinl Z z kr k F H nx E fp w a n hk st hd
    exact wp_ret ⟨F, H, nx, E, fp, hk, st, .refl st.fresh, .refl _ _⟩
  | _ =>
    intro C hC hinl Z z kr k F H nx E fp w a n hk st hd
    simp [evCode] at hk

end Go.Eng
/-
  The engine, part fourteen: functions and laws.
  Conditions: none; nothing is claimed of the program here.
-/
namespace Go.Eng
variable {RT : RoTab} {E : Env} {F : Fr} {a : Act} {H : Heap} {fp : Fp} {w : World} {P : Program} {Y : Type} {y : Y} {C : Cfg}

/-- One result. -/
def resOf (tmps : Array Value) : ResultVar → Sem Value
  | .tmp t => pure (tmps.getD t undef)
  | .cell a t => do loadVar t (← asAddr (tmps.getD a undef))

theorem load_var_run {t : TypeId} {u u' : Value} (h : (Instr.loadAt t u).run P w = .ok u' w) : (do loadVar t (← asAddr u) : Sem Value).run P w = .ok u' w := by
  cases u with
  | pointer p =>
    cases p with
    | none => simp [Instr.loadAt, Instr.sureAddr] at h
    | some ad => simpa [Instr.loadAt, Instr.sureAddr, asAddr] using h
  | _ => simp [Instr.loadAt, Instr.sureAddr] at h

theorem results_eq (fn : Func) (tmps : Array Value) : results fn tmps = (do
    let vs ← fn.results.mapM (resOf tmps)
    pure (if h : vs.size = 1 then vs[0] else .tuple vs)) := by
  unfold results
  congr 1

theorem resVars_sound (hs : Sim RT E H fp w) (hF : RF RT E F a) : ∀ {l : List ResultVar} {k : List AV → Option Y}, resVars P H F l k = some y →
    ∃ (vs : List AV) (us : List Value), k vs = some y ∧ (l.mapM (resOf a.tmps)).run P w = .ok us w ∧ All2 (RV RT E) vs us
  | [], k, h => by
    simp only [resVars] at h
    exact ⟨[], [], h, by simp, .nil⟩
  | .tmp t :: r, k, h => by
    simp only [resVars] at h
    obtain ⟨vs, us, h0, h1, h2⟩ := resVars_sound hs hF h
    refine ⟨F t :: vs, a.tmps.getD t undef :: us, h0, ?_, .cons (hF t) h2⟩
    rw [List.mapM_cons]
    simp only [resOf, Sem.run_bind, Sem.run_pure, Result.andThen_ok, h1]
  | .cell x t :: r, k, h => by
    simp only [resVars] at h
    split at h
    · rename_i xa hx
      have hFx := hF x
      rw [hx] at hFx
      obtain ⟨v, u, h0, h1, h2⟩ := load_sound hs (x := xa) hFx h
      obtain ⟨vs, us, g0, g1, g2⟩ := resVars_sound hs hF h0
      refine ⟨v :: vs, u :: us, g0, ?_, .cons h2 g2⟩
      rw [List.mapM_cons]
      have hl : (resOf a.tmps (.cell x t)).run P w = .ok u w := load_var_run h1
      simp only [Sem.run_bind, Sem.run_pure, Result.andThen_ok, g1, hl]
    · simp at h

theorem tupOf_sound : ∀ {vs : List AV} {us : List Value} {ps : List (Bool × List Atom)}, tupOf vs = some ps → All2 (RV RT E) vs us → us.length = ps.length ∧ ∀ j p, ps[j]? = some p → RP RT E p (us.getD j undef)
  | [], _, ps, h, .nil => by
    simp only [tupOf, Option.some.injEq] at h
    subst h
    exact ⟨rfl, fun j p hj => by simp at hj⟩
  | .at x :: r, u :: us, ps, h, .cons hx hs => by
    simp only [tupOf] at h
    split at h
    · rename_i l hl
      simp only [Option.some.injEq] at h
      subst h
      obtain ⟨h1, h2⟩ := tupOf_sound hl hs
      refine ⟨by simp [h1], fun j p hj => ?_⟩
      cases j with
      | zero => simp at hj; subst hj; exact hx
      | succ j => simpa using h2 j p (by simpa using hj)
    · simp at h
  | .agg xs :: r, u :: us, ps, h, .cons hx hs => by
    simp only [tupOf] at h
    split at h
    · rename_i l hl
      simp only [Option.some.injEq] at h
      subst h
      obtain ⟨h1, h2⟩ := tupOf_sound hl hs
      refine ⟨by simp [h1], fun j p hj => ?_⟩
      cases j with
      | zero => simp at hj; subst hj; exact hx
      | succ j => simpa using h2 j p (by simpa using hj)
    · simp at h
  | .tup _ :: _, _ :: _, ps, h, _ => by simp [tupOf] at h

theorem resA_sound {fn : Func} {k : AV → Option Y} (hs : Sim RT E H fp w) (hF : RF RT E F a) (hk : resA P fn F H k = some y) : ∃ v u, k v = some y ∧ (results fn a.tmps).run P w = .ok u w ∧ RV RT E v u := by
  unfold resA at hk
  obtain ⟨vs, us, h0, h1, h2⟩ := resVars_sound hs hF hk
  have hrun : (results fn a.tmps).run P w = .ok (if h : us.toArray.size = 1 then us.toArray[0] else .tuple us.toArray) w := by
    rw [results_eq, Array.mapM_eq_mapM_toList]
    simp only [Sem.run_bind, Sem.run_map, h1, Result.andThen_ok, Sem.run_pure]
  split at h0
  · rename_i v
    cases h2 with
    | cons hx hs =>
      cases hs
      refine ⟨v, _, h0, hrun, ?_⟩
      simpa using hx
  · rename_i hne
    split at h0
    · rename_i ps hps
      obtain ⟨h3, h4⟩ := tupOf_sound hps h2
      refine ⟨_, _, h0, hrun, ?_⟩
      have hlen := h2.length
      have hn1 : ¬ us.toArray.size = 1 := by
        intro he
        have : vs.length = 1 := by simpa [hlen] using he
        match vs, this with
        | [v], _ => exact hne v rfl
      rw [dif_neg hn1]
      refine ⟨us.toArray, rfl, by simpa using h3, fun j p hj => ?_⟩
      simpa [Array.getD_eq_getD_getElem?, List.getD_eq_getElem?_getD] using h4 j p hj
    · simp at h0

/-- A FUNCTION THAT IS CALLED. -/
theorem evFn_sound (hC : CfgOK C) {K : FCfg} (hK : AnnsOK K) {inl : Inl} (hinl : InlOK C inl) {f : Nat} {fn : Func} (hfn : C.P.funcs[f]? = some fn) {args : List AV} {cargs : Array Value} {nx : Nat} {k : KC Y}
    (hs : Sim C.RT E H fp w) (hf : Fresh E nx) (ha : All2 (RV C.RT E) args cargs.toList) (hk : evFn C K inl fn args H nx k = some y) :
    Calls C.P f cargs w fun e w' => ∃ u v E' H' fp' nx', e = .returned u ∧ k v H' nx' = some y ∧ RV C.RT E' v u ∧ Sim C.RT E' H' fp' w' ∧ Trip C E H fp w nx E' H' fp' w' nx' := by
  unfold evFn at hk
  split at hk
  · rename_i c hb
    rw [gate_some] at hk
    obtain ⟨hg, hk⟩ := hk
    simp only [Bool.and_eq_true] at hg
    obtain ⟨hd, hle⟩ := hg
    have hle : cargs.size ≤ fn.ntmps := by
      have h1 := ha.length
      rw [len_eq] at hle
      simp at hle h1
      omega
    have hsz : (cargs ++ Array.replicate (fn.ntmps - cargs.size) undef).size = fn.ntmps := by simp; omega
    have hst : St C.RT E H fp w (entryF args) { tmps := cargs ++ Array.replicate (fn.ntmps - cargs.size) undef, defers := [] } nx fn.ntmps := by
      refine ⟨hs, hf, fun j => ?_, hsz, rfl⟩
      simp only [entryF, nthD_eq]
      cases hj : args[j]? with
      | none =>
        rw [List.getD_eq_getElem?_getD, hj]
        exact R.unk _
      | some x =>
        rw [List.getD_eq_getElem?_getD, hj]
        obtain ⟨z, hz, hr⟩ := ha.get hj
        have hz' : cargs[j]? = some z := by simpa using hz
        have hlt : j < cargs.size := by
          rcases Nat.lt_or_ge j cargs.size with h | h
          · exact h
          · rw [Array.getElem?_eq_none h] at hz'; simp at hz'
        have : (cargs ++ Array.replicate (fn.ntmps - cargs.size) undef).getD j undef = z := by
          rw [Array.getD_eq_getD_getElem?, Array.getElem?_append_left hlt, hz']
          rfl
        simp only [Option.getD_some]
        rw [this]
        exact hr
    refine calls_of_wp hfn hb (wp_mono (evCode_sound hK c C hC hinl Y y _ _ _ _ _ E fp w _ _ hk hst hd) fun e a' w' hq => ?_)
    cases e with
    | normal =>
      obtain ⟨F', H', nx', E', fp', g1, g2, g3, g4⟩ := hq
      obtain ⟨v, u, q1, q2, q3⟩ := resA_sound (P := C.P) (w := w') g2.sim g2.rf g1
      exact ⟨g2.df, u, q2, u, v, E', H', fp', nx', rfl, q1, q3, g2.sim, g3⟩
    | ret =>
      obtain ⟨F', H', nx', E', fp', g1, g2, g3, g4⟩ := hq
      obtain ⟨v, u, q1, q2, q3⟩ := resA_sound (P := C.P) (w := w') g2.sim g2.rf g1
      exact ⟨g2.df, u, q2, u, v, E', H', fp', nx', rfl, q1, q3, g2.sim, g3⟩
    | exit id => obtain ⟨F', H', nx', E', fp', g1, _⟩ := hq; simp at g1
    | goto l => exact hq.elim
    | panic ch => exact hq.elim
    | outgrown => exact hq.elim
  · simp at hk

/-- What is told of calls on the spot is so. -/
def InlsOK (C : Cfg) : Prop := ∀ q ∈ C.inl, AnnsOK q.2 ∧ enters C.P q.1 = true

theorem inlTab_sound (hC : CfgOK C) (hI : InlsOK C) : ∀ d, InlOK C (inlTab C d)
  | 0 => fun Y y g args H nx k E fp w cargs hk => by simp [inlTab] at hk
  | d + 1 => fun Y y g args H nx k E fp w cargs hk hs hf ha => by
    simp only [inlTab] at hk
    split at hk
    · rename_i K fn hfind hfn
      obtain ⟨h1, h2⟩ := hI _ (find_mem hfind)
      refine ⟨h2, ?_⟩
      have hC' : CfgOK { C with hi := nx, mv := [] } := ⟨hC.rt, hC.wide, hC.specs, hC.exts, hC.meths, hC.laws⟩
      have ih : InlOK { C with hi := nx, mv := [] } (inlTab C d) := inlTab_sound hC hI d
      refine Calls.mono (evFn_sound hC' h1 ih hfn hs hf ha hk) ?_
      rintro e w' ⟨u, v, E', H', fp', nx', g1, g2, g3, g4, g5⟩
      refine ⟨u, E', H', fp', nx', v, g1, g2, g3, g4, ⟨⟨fun id I hI => ?_, g5.M⟩, g5.frm, g5.own, g5.nx, g5.fresh, g5.ext⟩⟩
      refine g5.keep id I ?_ (by simp) hI
      rcases Nat.lt_or_ge id nx with h | h
      · exact h
      · rw [hf id h] at hI; simp at hI
    · simp at hk

/-! ### A function's contract -/
def noneIn (l : List Nat) : List Nat → Bool
  | [] => true
  | t :: r => !mem l t && noneIn l r

theorem noneIn_get {l : List Nat} : ∀ {r : List Nat} {t : Nat}, noneIn l r = true → t ∈ l → t ∉ r
  | [], t, _, _ => by simp
  | t' :: r, t, h, hm => by
    simp only [noneIn, Bool.and_eq_true, Bool.not_eq_true'] at h
    intro hr
    rcases List.mem_cons.1 hr with rfl | hr
    · rw [mem_iff.2 hm] at h; simp at h
    · exact noneIn_get h.2 hm hr

/-- A function's shape with its meaning. -/
def Sig.spec (s : Sig) {R : Type} (run : Nat → Leaves → Option R) (enc : R → Leaves) : Spec :=
  ⟨s.args, s.n, s.pre, s.post, s.ret, fun N L _ k => obind (run N L) fun r => k (enc r)⟩

theorem noLent_nil {l : List Nat} (h : noLent l = true) : l = [] := by cases l <;> simp [noLent] at h ⊢

theorem appV_eq (xs ys : List View) : appV xs ys = xs ++ ys := by
  induction xs with
  | nil => rfl
  | cons x xs ih => simp [appV, ih]

theorem wholes_get {l : List (Nat × BPat)} : ∀ {n t i : Nat}, i < n → (wholes l t n)[i]? = some (match isDead l (t + i) with | true => .none | false => .whole (t + i))
  | 0, t, i, h => by omega
  | n + 1, t, 0, h => by simp [wholes]; rfl
  | n + 1, t, i + 1, h => by
    simp only [wholes, List.getElem?_cons_succ]
    rw [wholes_get (by omega), show t + 1 + i = t + (i + 1) by omega]

theorem isDead_live : ∀ {l : List (Nat × BPat)} {t : Nat}, distinct (ids l) = true → t ∈ idsLive l → isDead l t = false
  | [], t, _, h => by simp [idsLive] at h
  | (t', p) :: r, t, hd, h => by
    obtain ⟨hn, hd'⟩ := distinct_cons (t := t') (l := ids r) hd
    have hsub : t ∈ idsLive r → t ≠ t' := fun hr he => by
      obtain ⟨p', hp', _⟩ := idsLive_get hr
      exact hn (he ▸ ids_mem.2 ⟨p', hp'⟩)
    by_cases he : t = t'
    · subst he
      cases p with
      | dead => simp only [idsLive] at h; exact absurd rfl (hsub h)
      | _ => simp [isDead]
    · have hb : Nat.beq t t' = false := by
        cases hb : Nat.beq t t' with
        | false => rfl
        | true => exact absurd (Nat.eq_of_beq_eq_true hb) he
      have hr : t ∈ idsLive r := by
        cases p with
        | dead => exact h
        | _ => simp only [idsLive, List.mem_cons] at h; exact h.resolve_left he
      have := isDead_live hd' hr
      cases p <;> simp [isDead, hb, this]

/-- Where a function ends, its shape is met. -/
theorem sig_end {s : Sig} {R : Type} {dec : Leaves → R} {enc : R → Leaves} {run : Nat → Leaves → Option R} {L : Leaves} {r : R} {v : AV} {u : Value} {H' : Heap} {nx' : Nat} {E' : Env} {fp' : Fp} {w' : World} (hRT : RTok C.RT)
    (hok : specOk (s.spec run enc) = true) (hh : C.hi = s.n ∧ noneIn (idsLive s.post) C.mv = true)
    (henc : ∀ L Lc : Leaves, fAV (enc (dec L)) Lc s.ret = fAV L Lc s.ret ∧ s.post.map (fun q => fBlk (enc (dec L)) Lc q.2) = s.post.map (fun q => fBlk L Lc q.2))
    (hs : Sim noRT E (fHeap L L noHeap s.pre) fp w) (g1 : sigK s L dec v H' nx' = some r) (g2 : RV C.RT E' v u) (g3 : Sim C.RT E' H' fp' w') (g4 : Trip C E (fHeap L L noHeap s.pre) fp w s.n E' H' fp' w' nx') :
    ∃ E2 fp2, RV noRT E2 (fAV (enc r) L s.ret) u ∧ Sim noRT E2 (fHeap (enc r) L noHeap s.post) fp2 w' ∧
      Frm w (OwnAll (fHeap L L noHeap s.pre) fp) w' ∧ (∀ x, OwnAll (fHeap (enc r) L noHeap s.post) fp2 x → x.1 < w.heap.size → OwnAll (fHeap L L noHeap s.pre) fp x) ∧
      (∀ t, t < s.n → t ∈ idsLive s.post → E2.info t = E.info t) ∧ (∀ ad v, E.M ad = some v → E2.M ad = some v) ∧ MExt E (fHeap L L noHeap s.pre) fp w E2 := by
  unfold specOk at hok
  simp only [Bool.and_eq_true] at hok
  obtain ⟨q1, q2, q3, q4, q5, q6, q7, q8, q9, q10, q11, q12⟩ := hok
  simp only [Sig.spec] at q1 q2 q3 q4 q5 q6 q7 q8 q9 q10 q11 q12
  obtain ⟨hh1, hh2⟩ := hh
  unfold sigK at g1
  obtain ⟨m1, h1, e1, k1⟩ := mAV_sound g1
  obtain ⟨m, h2, e2, k2⟩ := mBlks_sound h1
  rw [gate_some] at h2
  obtain ⟨hg, h2⟩ := h2
  simp only [Bool.and_eq_true] at hg
  obtain ⟨hn, hva, hnl⟩ := hg
  obtain ⟨h2, hparts⟩ := partsIn_some h2
  simp only [Option.some.injEq] at h2
  have hret := k1 m e2
  have hbl := k2 m (.refl m)
  simp only [lcOf] at hret hbl
  have hlent := noLent_nil hnl
  have hla : lentApart m.σ m.lent = true := by rw [hlent]; rfl
  have hsim := Sim.base hRT g3 hbl hva hla hparts
  have hrv := matchV_RV hRT g3 hret g2
  obtain ⟨z1, z2⟩ := henc m.leaves L
  have hLr : fAV (enc r) L s.ret = fAV m.leaves L s.ret := by rw [← h2]; exact z1
  have hLp : fHeap (enc r) L noHeap s.post = fHeap m.leaves L noHeap s.post := by rw [← h2]; exact fHeap_congr z2
  refine ⟨baseE E' H' fp' w' m.σ m.lent, baseFp E' fp' m.σ, ?_, ?_, g4.frm, ?_, fun t ht hlv => ?_, fun ad v h => baseE_M (g4.M ad v h), fun ad v h => g4.ext ad v (baseE_none hnl h)⟩
  · rw [hLr]; exact fAV_RT q4 hrv
  · rw [hLp]; exact hsim.anyRT q3
  · rintro x ⟨t, b, hb, hx⟩ hlt
    rw [hLp] at hb
    obtain ⟨v', id, b', _, _, h3, h4⟩ := base_own g3 hbl hparts hb hx
    exact g4.own x ⟨id, b', h3, h4⟩ hlt
  · have hσ0 : (MS.startFn s.post s.n s.m).σ[t]? = some (.whole t) := by
      simp only [MS.startFn, appV_eq]
      have hw := wholes_get (l := s.post) (t := 0) ht
      rw [Nat.zero_add, isDead_live q8 hlv] at hw
      rw [List.getElem?_append_left]
      · exact hw
      · rcases Nat.lt_or_ge t (wholes s.post 0 s.n).length with h | h
        · exact h
        · rw [List.getElem?_eq_none h] at hw; simp at hw
    have hσ := (e1.trans e2).σ t _ hσ0 (by simp)
    rw [baseE_info hσ]
    simp only [viewInfo]
    obtain ⟨p, hp, hpd⟩ := idsLive_get (upTo_mem q11 ht)
    have hb' := fHeap_live (L := L) (Lc := L) q12 hp
    obtain ⟨b, hb0⟩ := (fBlk_live (L := L) (Lc := L)).1 hpd
    rw [hb0] at hb'
    obtain ⟨I, hI, _⟩ := hs.blk t b hb'
    rw [hI]
    exact g4.keep t I (by rw [hh1]; exact ht) (noneIn_get hh2 hlv) hI

theorem args_RT {RT' : RoTab} {L : Leaves} {ps : List VPat} {vs : List Value} (hp : allVs plainP ps = true) (h : All2 (RV RT E) (fAVs L L ps) vs) : All2 (RV RT' E) (fAVs L L ps) vs := by
  rw [fAVs_eq] at h ⊢
  have : ∀ {ps : List VPat} {vs : List Value}, (∀ p ∈ ps, allV plainP p = true) → All2 (RV RT E) (ps.map (fAV L L)) vs → All2 (RV RT' E) (ps.map (fAV L L)) vs := by
    intro ps
    induction ps with
    | nil => intro vs _ h; cases h; exact .nil
    | cons p ps ih =>
      intro vs hp h
      cases h with
      | cons h1 h2 => exact .cons (fAV_RT (hp p (by simp)) h1) (ih (fun q hq => hp q (by simp [hq])) h2)
  exact this (fun p h => allVs_get hp h) h

/-- THE CONTRACT. -/
theorem callOK_of_sig {fn : Func} {f : Nat} {s : Sig} {Cf : Nat → Cfg} {K : Nat → FCfg} {d : Nat} {R : Type} {dec : Leaves → R} {enc : R → Leaves} {run : Nat → Leaves → Option R} (hfn : P.funcs[f]? = some fn)
    (hP : ∀ N, (Cf N).P = P) (hC : ∀ N, CfgOK (Cf N)) (hI : ∀ N, InlsOK (Cf N)) (hK : ∀ N, AnnsOK (K N))
    (hrun : ∀ N L r, run N L = some r → evSig (Cf N) (K N) d fn s L dec = some r) (hok : specOk (s.spec run enc) = true) (hhi : ∀ N, (Cf N).hi = s.n ∧ noneIn (idsLive s.post) (Cf N).mv = true)
    (henc : ∀ L Lc : Leaves, fAV (enc (dec L)) Lc s.ret = fAV L Lc s.ret ∧ s.post.map (fun q => fBlk (enc (dec L)) Lc q.2) = s.post.map (fun q => fBlk L Lc q.2)) :
    CallOK P f (s.spec run enc) where
  ok := hok
  cps := fun N L Y k => by
    simp only [Sig.spec]
    cases run N L <;> simp [obind]
  calls := fun N L L' E fp w args hr hs ha hf => by
    simp only [Sig.spec, obind_some] at hr
    obtain ⟨r, hr, hL'⟩ := hr
    simp only [Option.some.injEq] at hL'
    subst hL'
    have hev := hrun N L r hr
    have hok' := hok
    unfold specOk at hok'
    simp only [Bool.and_eq_true] at hok'
    have q1 := hok'.1
    have q2 := hok'.2.1
    simp only [Sig.spec] at hs ha hf q1 q2 ⊢
    rw [← hP N] at hfn ⊢
    unfold evSig at hev
    refine Calls.mono (evFn_sound (hC N) (hK N) (inlTab_sound (hC N) (hI N) d) hfn (hs.anyRT q2) hf (args_RT q1 ha) hev) ?_
    rintro e w' ⟨u, v, E', H', fp', nx', he, g1, g2, g3, g4⟩
    obtain ⟨E2, fp2, z1, z2, z3, z4, z5, z6, z7⟩ := sig_end (hC N).rt hok (hhi N) henc hs g1 g2 g3 g4
    exact ⟨E2, fp2, u, he, z1, z2, z3, z4, z5, z6, z7⟩

/-! ### Functions that call themselves -/
/-! ### Laws -/
/-- All that a world holds stays. -/
noncomputable def lawE (w : World) : Env := ⟨fun _ => none, fun a => match a.spot with | none => w.cell? a | some _ => none⟩

theorem law_sound (hC : CfgOK C) (hI : InlsOK C) {K : FCfg} (hK : AnnsOK K) {f d : Nat} {fn : Func} (hfn : C.P.funcs[f]? = some fn) {args : List AV} {cargs : Array Value}
    (ha : All2 (RV C.RT (lawE w)) args cargs.toList) (hk : evLaw C K d fn args = some true) :
    Calls C.P f cargs w fun e w' => e = .returned (.bool true) ∧ Frm w (fun _ => False) w' := by
  have hs : Sim C.RT (lawE w) noHeap (fun _ _ => False) w := by
    refine ⟨fun id b hb => by simp [noHeap] at hb, fun i j b c x hb => by simp [noHeap] at hb, fun ad v h => ?_⟩
    simp only [lawE] at h
    split at h
    · rename_i hs
      exact ⟨hs, h, fun i b hb => by simp [noHeap] at hb⟩
    · simp at h
  refine Calls.mono (evFn_sound hC hK (inlTab_sound hC hI d) hfn hs (fun id _ => rfl) ha hk) ?_
  rintro e w' ⟨u, v, E', H', fp', nx', he, g1, g2, g3, g4⟩
  unfold lawK at g1
  split at g1
  · simp only [Option.some.injEq] at g1
    subst g1
    have : u = .bool true := R.bool_inv g2
    subst this
    exact ⟨he, g4.frm.mono fun x ⟨id, b, hb, _⟩ => by simp [noHeap] at hb⟩
  · simp at g1

end Go.Eng
/-
  The engine, part fifteen: what a law's arguments read as, and the row's end.
  Conditions: none; nothing is claimed of the program here.
-/
namespace Go.Eng
variable {H : Type} {enc : TypeId × Value → H} {P : Program} {W : World} {base : Nat} {spare : Nat → Bool} {held : Bool} {RT : RoTab}

/-- A whole number of its kind. -/
def WfI (k : IntKind) (n : Int) : Prop := (Lit.int k n).wf = true
def WfL (k : IntKind) (l : List Int) : Prop := ∀ n ∈ l, WfI k n

theorem WfI.bounds {k : IntKind} {n : Int} (h : WfI k n) : k.min ≤ n ∧ n ≤ k.max := by
  simpa [WfI, Lit.wf] using h

theorem lawE_M {w : World} {a : Addr} (h : a.spot = none) : (lawE w).M a = w.cell? a := by simp only [lawE, h]

theorem cell_spot {w : World} {a : Addr} {v : Value} (h : w.cell? a = some v) : a.spot = none := by
  cases hs : a.spot with
  | none => rfl
  | some s =>
    unfold World.cell? at h
    split at h
    · simp [hs] at h
    · simp at h

theorem add_none {a : Addr} (h : a.spot = none) (n : Nat) : a.add n = ⟨a.block, a.off + n, none⟩ := by
  obtain ⟨b, o, s⟩ := a
  simp only at h
  subst h
  unfold Addr.add
  split
  · rename_i h; simp [h]
  · rfl

theorem law_cell {w : World} {a : Addr} {n : Nat} {v v0 : Value} (h0 : w.cell? (a.add 0) = some v0) (h : w.cell? (a.add n) = some v) : a.spot = none ∧ (lawE w).M ⟨a.block, a.off + n, none⟩ = some v := by
  have hs : a.spot = none := cell_spot (by simpa [Addr.add] using h0)
  refine ⟨hs, ?_⟩
  rw [lawE_M rfl, ← add_none hs n]
  exact h

/-- A slice of whole numbers. -/
theorem rd_ints {t e : TypeId} {k : IntKind} {fuel : Nat} {cs : List Value} {x : DataW H × List MemPlace} (ht : P.underlying t = some (.slice e)) (he : P.underlying e = some (.int k)) (hc : P.cellsOf e = 1)
    (h : DataW.trod enc P W base spare held fuel t cs = some x) : ∃ v xs, cs = [v] ∧ R RT (lawE W) (.roi k xs) v ∧ WfL k xs ∧
      ((x.1 = .nil ∧ xs = []) ∨ ∃ sp, x.1 = .slice (xs.map fun n => .lit (.int k n)) sp) := by
  rcases ChangeShapes.open_ints ht he hc h with ⟨rfl, rfl⟩ | ⟨a, len, cap, zs, rfl, _, hl, _, hz, rfl, hcell, hw⟩
  · exact ⟨_, [], rfl, R.roi (xs := []) (base := none) (cap := 0) (Nat.le_refl _) (fun i hi => by simp at hi), fun n hn => by simp at hn, Or.inl ⟨rfl, rfl⟩⟩
  · have hlen : (zs.take len).length = len := by
      rw [List.length_take, hz]
      split <;> omega
    have hle : len ≤ zs.length := by rw [hz]; split <;> omega
    refine ⟨_, zs.take len, rfl, ?_, fun n hn => hw n (List.mem_of_mem_take hn), Or.inr ⟨_, rfl⟩⟩
    have := R.roi (RT := RT) (E := lawE W) (k := k) (xs := zs.take len) (base := some a) (cap := cap) (by omega) (fun i hi => by
      rw [hlen] at hi
      obtain ⟨h1, h2⟩ := law_cell (hcell 0 (by omega)) (hcell i (by omega))
      refine ⟨a, rfl, h1, ?_⟩
      rw [h2]
      simp [List.getD_eq_getElem?_getD, List.getElem?_take_of_lt hi])
    rw [hlen] at this
    exact this

theorem Frm.below {w w' : World} (h : Frm w (fun _ => False) w') : RowKit.Below w.heap.size w w' where
  os := h.os
  tape := h.tape
  output := h.output
  size := h.size
  block := fun k hk => by
    cases hb : w.heap[k]? with
    | none => simp [Array.getElem?_eq_none_iff] at hb; omega
    | some o =>
      cases o with
      | cells c t fz =>
        obtain ⟨c', h1, h2, h3⟩ := h.cells k c t fz hb
        rw [h1]
        have : c' = c := by
          apply Array.ext_getElem?
          intro i
          exact h3 i (fun h => h)
        rw [this]
      | _ => exact h.other k _ hb (by simp)

end Go.Eng
/-
  The engine, part sixteen: what the head of a cut says, in few steps for the kernel.
  Conditions: none; nothing is claimed of the program here.
-/
namespace Go.Eng
/-- A head's words, one sign after the other. -/
def fastW : List Char → List Char → List (List Char)
  | [], acc => [acc.reverse]
  | ' ' :: r, acc => acc.reverse :: fastW r []
  | c :: r, acc => fastW r (c :: acc)

theorem fastW_spec : ∀ (l acc : List Char), ∃ w ws, wordsSigns l = w :: ws ∧ fastW l acc = (acc.reverse ++ w) :: ws
  | [], acc => ⟨[], [], by simp [wordsSigns], by simp [fastW]⟩
  | c :: r, acc => by
    by_cases hc : c = ' '
    · subst hc
      obtain ⟨w, ws, h1, h2⟩ := fastW_spec r []
      refine ⟨[], w :: ws, by rw [wordsSigns, h1], ?_⟩
      rw [fastW, h2]
      simp
    · obtain ⟨w, ws, h1, h2⟩ := fastW_spec r (c :: acc)
      refine ⟨c :: w, ws, ?_, ?_⟩
      · rw [wordsSigns, h1]
        exact fun h => hc h
      · rw [fastW, h2]
        · simp
        · exact fun h => hc h

theorem wordsSigns_eq (l : List Char) : wordsSigns l = fastW l [] := by
  obtain ⟨w, ws, h1, h2⟩ := fastW_spec l []
  rw [h1, h2]
  simp

theorem mayEnter_cut {P : Program} {rest : List (List Char)} (hb : behindMainWord (wordsSigns P.initOrder.toList) = "cut".toList :: rest) (h : stripLifts liftWords ("cut".toList :: rest) = ([], "cut".toList :: rest)) (h1 : P.laysLater = false) (h2 : P.bearsReflect = false) (h3 : P.doorFits [] = true) : P.mayEnter = true := by
  unfold Program.mayEnter
  simp only [hb, h, h1, h2, h3]
  simp
/-- What makes it. -/
theorem make_of (P : Program) {rest : List (List Char)} (h : behindMainWord (wordsSigns P.initOrder.toList) = "cut".toList :: rest) : P.make = some .cut := by
  unfold Program.make
  rw [h]
  simp

theorem liftsFinal_of (P : Program) {rest : List (List Char)} (h : behindMainWord (wordsSigns P.initOrder.toList) = "cut".toList :: rest) (h2 : stripLifts liftWords ("cut".toList :: rest) = ([], "cut".toList :: rest)) : P.liftsFinal = false := by
  unfold Program.liftsFinal Program.headLifts
  simp only [h, h2]
  simp

/-- What a row of a law asks, one by one. -/
theorem facts_mk {P : Program} {f : FuncId} {fn : Func} {s : ChangeSpec} {c : OpenClaim} (k1 : c.wf (OpenSpec.ofChange s) = true) (k2 : laidOutB P = true) (k3 : mapsRowed P = true)
    (k4 : fn.params.all (P.readableRec ·) = true) (k5 : namedTie P c.named s.vars = true) (k6 : (c.stops == []) = true) (k7 : (P.stops == []) = true) (k8 : (c.knobs == []) = true) (k9 : (P.stopKnobs == []) = true)
    (k10 : (c.inPlace == P.inPlace f) = true) (k11 : (c.unfollowed == P.unfollowed f) = true) (k12 : (c.recurses == P.recurses f) = true) (k13 : (c.named == P.varsNamed f) = true)
    (k14 : (c.maps == (fn.params.toList ++ s.plain.varTypes P).any (P.mapsRec ·)) = true) (k15 : (c.ifaces == (fn.params.toList ++ s.plain.varTypes P).any (P.ifacesRec ·)) = true) (k16 : (c.mapsOut == P.mapsAmong fn.resultTypes.toList) = true)
    (k17 : (c.loops == (fn.params.toList ++ s.plain.varTypes P).any (P.loopsFrom ·)) = true) (k17b : (c.wideKeys == (fn.params.toList ++ s.plain.varTypes P ++ fn.resultTypes.toList).any (P.wideKeysFrom ·)) = true)
    (k18 : s.vars.all (P.varReadable ·) = true) (k19 : fn.resultTypes.all (fun t => P.readableRec t && decide (t < P.types.size)) = true) (k20 : (c.ifacesOut == fn.resultTypes.toList.any (P.ifacesRec ·)) = true) (k21 : (c.loopsOut == fn.resultTypes.toList.any (P.loopsFrom ·)) = true)
    (k22 : (c.plainKeys == P.plainKeys) = true) (k23 : c.shortTexts.isNone = true) (k23b : P.stopsHeard = true) (k24 : P.mayEnter = true) (k24b : (c.lifted == P.liftsFinal) = true) (k24c : (P.make == some c.make) = true)
    (k25 : (c.kinds == (if c.domain.isEmpty then [] else fn.params.toList.map fun t => match P.underlying t with | some (.int k) => some k | _ => none)) = true) (k26 : (c.pinned == c.pinnedBy) = true)
    (k27 : (c.veiled == (fn.params.toList ++ s.plain.varTypes P ++ fn.resultTypes.toList).any (P.veiledRec ·)) = true) (k28 : c.veiledFits P fn.params.toList (fn.params.toList ++ s.plain.varTypes P ++ fn.resultTypes.toList) = true) :
    joinedFacts P f fn s c = true := by
  simp only [joinedFacts, Bool.and_eq_true]
  exact ⟨⟨⟨⟨⟨⟨⟨⟨⟨⟨⟨⟨⟨⟨⟨⟨⟨⟨⟨⟨⟨⟨⟨⟨⟨⟨⟨⟨⟨⟨⟨k1, k2⟩, k3⟩, k4⟩, k5⟩, k6⟩, k7⟩, k8⟩, k9⟩, k10⟩, k11⟩, k12⟩, k13⟩, k14⟩, k15⟩, k16⟩, k17⟩, k17b⟩, k18⟩, k19⟩, k20⟩, k21⟩, k22⟩, k23⟩, k23b⟩, k24⟩, k24b⟩, k24c⟩, k25⟩, k26⟩, k27⟩, k28⟩

end Go.Eng
/-
  The engine: how long a list of numbers among a law's arguments is at most (the claims' own reach).
  Conditions: none; nothing is claimed of the program here.
-/
namespace Go.Eng
open Go.ChangeShapes Go.WideShapes Go.ChangeAt Go.RowKit
variable {H : Type} {P : Program}

theorem ints_reach {ts : List TypeId} {ds : List (DataW H)} (h : (DataW.weightsEach P ts ds).all (· ≤ reachBytes) = true) {j : Nat} {d : DataW H} {t e : TypeId} (ht : ts[j]? = some t) (hd : ds[j]? = some d)
    (hu : P.underlying t = some (.slice e)) {k : IntKind} {xs : List Int} (hx : (d = .nil ∧ xs = []) ∨ ∃ sp, d = .slice (xs.map fun n => .lit (.int k n)) sp) : xs.length * P.bytesOf e ≤ 140737488351232 := by
  rcases hx with ⟨_, rfl⟩ | ⟨sp, rfl⟩
  · simp
  have m : (xs.length + sp.length) * P.bytesOf e ∈ DataW.weightsEach P ts ds := by
    refine DataW.weights_mem_each ht hd _ ?_
    simp [DataW.weights, hu]
  have h8 := of_decide_eq_true (List.all_eq_true.1 h _ m)
  simp only [reachBytes] at h8
  have : xs.length * P.bytesOf e ≤ (xs.length + sp.length) * P.bytesOf e := Nat.mul_le_mul_right _ (by omega)
  omega
end Go.Eng
