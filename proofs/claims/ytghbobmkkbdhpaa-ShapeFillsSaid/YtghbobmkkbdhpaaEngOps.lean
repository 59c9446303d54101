/-
  The engine, part nine: one operation.
  Conditions: none; nothing is claimed of the program here.
-/
import Derived.Test.YtghbobmkkbdhpaaEngCall2
import Derived.Test.YtghbobmkkbdhpaaEngApp
import Derived.Orders
import Derived.Tactics
set_option linter.unusedSimpArgs false
set_option linter.unusedVariables false
namespace Go.Eng
variable {RT : RoTab} {E : Env} {F : Fr} {a : Act} {H : Heap} {fp : Fp} {w : World} {P : Program} {Y : Type} {y : Y}

/-- A function that a call enters. -/
def enters (P : Program) (g : Nat) : Bool :=
  match P.funcs[g]? with
  | some fn => match fn.body with
    | some _ => !(fn.name == "runtime.NumGoroutine")
    | none => false
  | none => false

theorem run_enter {g : Nat} {args : Array Value} (h : enters P g = true) : (callFunc g args).run P w = .ok (.enter g args) w := by
  unfold enters at h
  split at h
  · rename_i fn hf
    split at h
    · rename_i c hb
      have h1 : fn.name ≠ "runtime.NumGoroutine" := by simpa using h
      simp [callFunc, hf, h1, hb]
    · simp at h
  · simp at h

theorem pick_mem {s : Spec} {as : List AV} : ∀ {l : List (Nat × Spec)} {f : Nat}, pick l f as = some s → (f, s) ∈ l
  | [], f, h => by simp [pick] at h
  | (g, z) :: r, f, h => by
    simp only [pick] at h
    split at h
    · rename_i hb
      simp only [Bool.and_eq_true] at hb
      have := Nat.eq_of_beq_eq_true hb.1
      cases h
      subst this
      exact List.mem_cons_self
    · exact List.mem_cons_of_mem _ (pick_mem h)
theorem find_mem {α : Type 1} {s : α} : ∀ {l : List (Nat × α)} {f : Nat}, find l f = some s → (f, s) ∈ l
  | [], f, h => by simp [find] at h
  | (g, s') :: r, f, h => by
    simp only [find] at h
    split at h
    · rename_i hb
      have := Nat.eq_of_beq_eq_true hb
      subst this
      simp only [Option.some.injEq] at h
      subst h
      exact List.mem_cons_self ..
    · exact List.mem_cons_of_mem _ (find_mem h)

/-- What a call comes to. -/
def Went (C : Cfg) (f : FuncId) (cargs : Array Value) (w : World) (E : Env) (H : Heap) (fp : Fp) (nx : Nat) (k : KC Y) (y : Y) : Prop :=
  Calls C.P f cargs w fun e w' => ∃ u E' H' fp' nx' v, e = .returned u ∧ k v H' nx' = some y ∧ RV C.RT E' v u ∧ Sim C.RT E' H' fp' w' ∧ Step E H fp w nx E' H' fp' w' nx'

/-- Calls on the spot are sound. -/
def InlOK (C : Cfg) (inl : Inl) : Prop :=
  ∀ (Y : Type) (y : Y) (g : Nat) (args : List AV) (H : Heap) (nx : Nat) (k : KC Y) (E : Env) (fp : Fp) (w : World) (cargs : Array Value), inl Y g args H nx k = some y →
    Sim C.RT E H fp w → Fresh E nx → All2 (RV C.RT E) args cargs.toList → enters C.P g = true ∧ Went C g cargs w E H fp nx k y

/-- A function of the model's own that adds with a carry. -/
def ExtOK (P : Program) (g : Nat) : Prop := ∀ (x y c : Int) (w : World), 0 ≤ x → 0 ≤ y → 0 ≤ c → c ≤ 1 →
  (callFunc g #[.int .u64 x, .int .u64 y, .int .u64 c]).run P w = .ok (.value (.tuple #[.int .u64 ((x + y + c) % 18446744073709551616), .int .u64 ((x + y + c) / 18446744073709551616)])) w

theorem findL_mem : ∀ {l : List (Nat × (List AV → Option Bool))} {f : Nat} {φ : List AV → Option Bool}, findL l f = some φ → (f, φ) ∈ l
  | [], _, _, h => by simp [findL] at h
  | (g, s) :: r, f, φ, h => by
    simp only [findL] at h
    split at h
    · rename_i hb
      simp only [Option.some.injEq] at h
      subst h
      rw [Nat.eq_of_beq_eq_true hb]
      exact List.mem_cons_self ..
    · exact List.mem_cons_of_mem _ (findL_mem h)

/-- A law that is called: it answers, and turns nothing. -/
def LawOK (P : Program) (RT : RoTab) (g : Nat) (φ : List AV → Option Bool) : Prop :=
  ∀ (args : List AV) (b : Bool) (E : Env) (w : World) (cargs : Array Value), φ args = some b → Sim RT E noHeap (fun _ _ => False) w → (∀ id, E.info id = none) → All2 (RV RT E) args cargs.toList →
    Calls P g cargs w fun e w' => e = .returned (.bool b) ∧ Frm w (fun _ => False) w'

theorem loose_RV {E' : Env} {RT : RoTab} (hRT : RTok RT) (hM : ∀ ad v, E.M ad = some v → E'.M ad = some v) {a : AV} {u : Value} (hl : looseA a = true) (h : RV RT E a u) : RV RT E' a u := by
  unfold looseA at hl
  split at hl
  · have h' : R RT E _ u := h
    exact R.simple (RT := RT) hM trivial h'
  · have h' : R RT E _ u := h
    exact R.simple (RT := RT) hM trivial h'
  · have h' : R RT E _ u := h
    exact R.simple (RT := RT) hM trivial h'
  · have h' : R RT E _ u := h
    show R RT E' _ u
    cases h' with
    | ror u hT hc hx hr =>
      exact R.ror u hT hc (fun i j hi hj => let ⟨a, h1, h2, h3⟩ := hx i j hi hj; ⟨a, h1, h2, hM _ _ h3⟩) (fun i j hi hj => R.simple hM (hRT _ _ i j hT) (hr i j hi hj))
  · simp at hl

theorem loose_all {E' : Env} {RT : RoTab} (hRT : RTok RT) (hM : ∀ ad v, E.M ad = some v → E'.M ad = some v) : ∀ {as : List AV} {us : List Value}, looseAs as = true → All2 (RV RT E) as us → All2 (RV RT E') as us
  | [], _, _, .nil => .nil
  | a :: as, u :: us, hl, .cons h hs => by
    simp only [looseAs, Bool.and_eq_true] at hl
    exact .cons (loose_RV hRT hM hl.1 h) (loose_all hRT hM hl.2 hs)

/-- A method of that name, of values of that type. -/
def MethOK (P : Program) (m : Nat × List Nat × Nat) : Prop := ∀ (name : String) (v : Value) (args : Array Value) (w : World), nameNums name = m.2.1 →
  (callMethod (.iface m.1 v) name args).run P w = (callFunc m.2.2 (#[v] ++ args)).run P w

theorem eqNs_eq : ∀ {xs ys : List Nat}, eqNs xs ys = true → xs = ys
  | [], [], _ => rfl
  | x :: xs, y :: ys, h => by
    simp only [eqNs] at h
    split at h
    · rename_i hb
      rw [Nat.eq_of_beq_eq_true hb, eqNs_eq h]
    · simp at h
  | [], _ :: _, h => by simp [eqNs] at h
  | _ :: _, [], h => by simp [eqNs] at h

theorem findM_mem : ∀ {l : List (Nat × List Nat × Nat)} {t : Nat} {n : List Nat} {f : Nat}, findM l t n = some f → (t, n, f) ∈ l
  | [], _, _, _, h => by simp [findM] at h
  | (t, n, f) :: r, t', n', f', h => by
    simp only [findM] at h
    split at h
    · rename_i h1 h2
      simp only [Option.some.injEq] at h
      rw [← Nat.eq_of_beq_eq_true h1, ← eqNs_eq h2, ← h]
      exact List.mem_cons_self ..
    · exact List.mem_cons_of_mem _ (findM_mem h)

theorem name_of {a b : String} (h : nameNums a = nameNums b) : a = b := by
  have inj : ∀ {xs ys : List Char}, xs.map Char.toNat = ys.map Char.toNat → xs = ys := by
    intro xs
    induction xs with
    | nil => intro ys h; cases ys with
      | nil => rfl
      | cons _ _ => simp at h
    | cons x xs ih => intro ys h; cases ys with
      | nil => simp at h
      | cons z zs =>
        simp only [List.map_cons, List.cons.injEq] at h
        rw [ih h.2, Char.toNat_inj.1 h.1]
  exact String.toList_inj.1 (inj h)

/-- A method by its name. -/
theorem methOK_of {P : Program} {t f : Nat} (name : String) (h : ∀ (v : Value) (args : Array Value) (w : World), (callMethod (.iface t v) name args).run P w = (callFunc f (#[v] ++ args)).run P w) {l : List Nat} (hl : nameNums name = l) : MethOK P (t, l, f) := by
  intro n v args w hn
  rw [show n = name from name_of (hn.trans hl.symm)]
  exact h v args w

/-- What the evaluator is given is so. -/
structure CfgOK (C : Cfg) : Prop where
  rt : RTok C.RT
  wide : C.P.follows .mixedOrders = true
  specs : ∀ q ∈ C.specs, CallOK C.P q.1 q.2 ∧ enters C.P q.1 = true
  exts : ∀ g ∈ C.exts, ExtOK C.P g
  meths : ∀ m ∈ C.meths, MethOK C.P m
  laws : ∀ q ∈ C.laws, LawOK C.P C.RT q.1 q.2 ∧ enters C.P q.1 = true

theorem atsA_all2 : ∀ {cap : List Atom} {us : List Value}, All2 (R RT E) cap us → All2 (RV RT E) (atsA cap) us
  | [], [], _ => .nil
  | _ :: _, _ :: _, .cons h hs => .cons (r := RV RT E) h (atsA_all2 hs)

theorem appA_all2 : ∀ {args : List AV} {vs : List Value} {cap : List Atom} {us : List Value}, All2 (RV RT E) args vs → All2 (R RT E) cap us → All2 (RV RT E) (appA args cap) (vs ++ us)
  | [], [], _, _, _, h => by simpa [appA] using atsA_all2 h
  | _ :: _, _ :: _, _, _, .cons h hs, h2 => by
    simp only [appA]
    exact .cons h (appA_all2 hs h2)

theorem all2_of {α β : Type} {r : α → β → Prop} {d : β} : ∀ {as : List α} {bs : List β}, as.length = bs.length → (∀ j x, as[j]? = some x → r x (bs.getD j d)) → All2 r as bs
  | [], [], _, _ => .nil
  | x :: as, z :: bs, hl, h => .cons (by simpa using h 0 x rfl) (all2_of (by simpa using hl) fun j x hj => by simpa using h (j + 1) x (by simpa using hj))
  | [], _ :: _, hl, _ => by simp at hl
  | _ :: _, [], hl, _ => by simp at hl

theorem args_all2 (hF : RF RT E F a) (l : Array Operand) : All2 (RV RT E) (argsA F l.toList) (l.map a.eval).toList := by
  obtain ⟨g1, g2⟩ := argsA_get hF l.toList
  refine all2_of (d := undef) (by simp [g1]) fun j x hj => ?_
  simpa using g2 j x hj

theorem evCall_sound {C : Cfg} (hC : CfgOK C) {inl : Inl} (hinl : InlOK C inl) {nx : Nat} {f : AV} {uf : Value} {args : List AV} {cargs : Array Value} {k : KC Y} (hs : Sim C.RT E H fp w) (hf : Fresh E nx)
    (hfv : RV C.RT E f uf) (ha : All2 (RV C.RT E) args cargs.toList) (hk : evCall C inl H nx f args k = some y) :
    ∃ g vs, uf = .func (.func g) #[] vs ∧ ((enters C.P g = true ∧ Went C g (cargs ++ vs) w E H fp nx k y) ∨
      ∃ u v, (callFunc g (cargs ++ vs)).run C.P w = .ok (.value u) w ∧ k v H nx = some y ∧ RV C.RT E v u) := by
  unfold evCall at hk
  split at hk
  · rename_i g cap
    have hfv' : R C.RT E (.fn (.func g) cap) uf := hfv
    cases hfv' with
    | fn hn hr =>
      rename_i vs
      have hcap : All2 (R C.RT E) cap vs.toList := all2_of (d := undef) (by simp [hn]) fun j x hj => by
        have := hr j x hj
        simpa [Array.getD_eq_getD_getElem?, List.getD_eq_getElem?_getD] using this
      have hall : All2 (RV C.RT E) (appA args cap) (cargs ++ vs).toList := by
        rw [Array.toList_append]
        exact appA_all2 ha hcap
      refine ⟨g, vs, rfl, ?_⟩
      split at hk
      · rename_i φ hfl
        obtain ⟨h1, h2⟩ := hC.laws _ (findL_mem hfl)
        rw [gate_some, obind_some] at hk
        obtain ⟨hl, b, hφ, hk⟩ := hk
        have hs0 : Sim C.RT ⟨fun _ => none, E.M⟩ noHeap (fun _ _ => False) w :=
          ⟨fun id b hb => by simp [noHeap] at hb, fun i j b c x hb => by simp [noHeap] at hb, fun ad v h => ⟨(hs.ro ad v h).1, (hs.ro ad v h).2.1, fun i b hb => by simp [noHeap] at hb⟩⟩
        refine Or.inl ⟨h2, Calls.mono (h1 _ b ⟨fun _ => none, E.M⟩ w _ hφ hs0 (fun _ => rfl) (loose_all (E := E) (E' := ⟨fun _ => none, E.M⟩) hC.rt (fun _ _ h => h) hl hall)) ?_⟩
        rintro e w' ⟨rfl, hF⟩
        exact ⟨_, E, H, fp, nx, _, rfl, hk, R.bool _, hs.frm hF (fun _ _ h => h) (fun _ _ _ h => h), ⟨.refl E, hF.mono fun _ h => h.elim, fun _ h _ => h, Nat.le_refl _, hf, .refl _ _ _ _⟩⟩
      split at hk
      · rename_i s hfind
        obtain ⟨h1, h2⟩ := hC.specs _ (pick_mem hfind)
        exact Or.inl ⟨h2, callSpec_sound h1 hC.rt hs hf hall hk⟩
      · split at hk
        · rename_i hext
          right
          have hx := hC.exts g (mem_iff.1 hext)
          unfold evExt at hk
          split at hk
          · rename_i x z c hargs
            rw [chk_some] at hk
            obtain ⟨⟨h0, h1, h2, h3⟩, hk⟩ := hk
            rw [hargs] at hall
            generalize hus : cargs ++ vs = us at hall
            obtain ⟨usl⟩ := us
            cases hall with
            | cons r1 q1 =>
              cases q1 with
              | cons r2 q2 =>
                cases q2 with
                | cons r3 q3 =>
                  cases q3
                  obtain rfl := R.int_inv r1
                  obtain rfl := R.int_inv r2
                  obtain rfl := R.int_inv r3
                  refine ⟨_, _, hx x z c w h0 h1 h2 h3, hk, _, rfl, rfl, fun j p hj => ?_⟩
                  match j with
                  | 0 => simp at hj; subst hj; exact R.int _ _
                  | 1 => simp at hj; subst hj; exact R.int _ _
                  | j + 2 => simp at hj
          · simp at hk
        · exact Or.inl (hinl Y y g _ H nx k E fp w _ hk hs hf hall)
  · simp at hk

/-- THE OPERATIONS THAT TURN MEMORY. -/
theorem evC_sound {C : Cfg} (hC : CfgOK C) {inl : Inl} (hinl : InlOK C inl) {nx : Nat} {o : Oper} {k : KC Y} (hs : Sim C.RT E H fp w) (hf : Fresh E nx) (hF : RF C.RT E F a)
    (hk : evC C inl H nx F o.op k = some y) {Q : Exit → Act → World → Prop} {next : Act → World → Prop}
    (hnext : ∀ v u H' nx' E' fp' w', k v H' nx' = some y → RV C.RT E' v u → Sim C.RT E' H' fp' w' → Step E H fp w nx E' H' fp' w' nx' → next (a.put o.dst u) w') :
    o.wp C.P a w next Q := by
  unfold evC at hk
  unfold Oper.wp execOp
  have lift : ∀ (s : Sem Value) (u : Value) (w' : World), s.run C.P w = .ok u w' → (do pure (.value (← s)) : Sem Next).run C.P w = .ok (.value u) w' := by
    intro s u w' h
    simp only [Sem.run_bind, h, Result.andThen_ok, Sem.run_pure]
  split at hk
  · rename_i e ho
    simp only [ho]
    split at hk
    · rename_i z hz
      obtain ⟨E', fp', u, w', h1, h2, h3, h4⟩ := alloc_sound (P := C.P) hs hf hz
      rw [lift _ _ _ h1]
      exact hnext _ _ _ _ _ _ _ hk h2 h3 h4
    · simp at hk
  · rename_i e x ho
    simp only [ho]
    rw [gate_some] at hk
    obtain ⟨hg, hk⟩ := hk
    obtain ⟨E', fp', u, w', h1, h2, h3, h4⟩ := box_sound (P := C.P) (e := e) hs hf (opd_sound hF x) hg
    rw [lift _ _ _ h1]
    exact hnext _ _ _ _ _ _ _ hk h2 h3 h4
  · rename_i t n parts ho
    simp only [ho]
    have hp := parts_sound hF parts.toList
    have hp' : All2 (fun (p : Nat × AV) (q : Nat × Value) => p.1 = q.1 ∧ RV C.RT E p.2 q.2) (partsA F parts.toList) (parts.map fun (i, x) => (i, a.eval x)).toList := by
      simpa using hp
    obtain ⟨v, H', nx', E', fp', u, w', h1, h2, h3, h4, h5⟩ := buildSlice_sound (P := C.P) hs hf hp' hk
    rw [lift _ _ _ h2]
    exact hnext _ _ _ _ _ _ _ h1 h3 h4 h5
  · rename_i t l c ho
    simp only [ho]
    obtain ⟨v, H', nx', E', fp', u, w', h1, h2, h3, h4, h5⟩ := make_sound (P := C.P) hs hf (opd_sound hF l) (opd_sound hF c) hk
    rw [lift _ _ _ h2]
    exact hnext _ _ _ _ _ _ _ h1 h3 h4 h5
  · rename_i t ad x ho
    simp only [ho]
    split at hk
    · rename_i at' hat
      have hx : RV C.RT E (evOpd F ad) (a.eval ad) := opd_sound hF ad
      rw [hat] at hx
      obtain ⟨H', w', h1, h2, h3, h4⟩ := store_sound (P := C.P) hs hf hx (opd_sound hF x) hk
      have : (do Instr.storeAt t (a.eval ad) (a.eval x); pure .skip : Sem Next).run C.P w = .ok .skip w' := by
        simp only [Sem.run_bind, h2, Result.andThen_ok, Sem.run_pure]
      rw [this]
      exact hnext _ undef _ _ _ _ _ h1 (R.unk _) h3 h4
    · simp at hk
  · rename_i c ho
    simp only [ho]
    have hres : ∀ b, c.callee = .builtin b → (do let d ← resolve a.eval c o.type; invoke d.target d.args : Sem Next) =
        builtin b c.argTypes o.type (c.args.map fun | .const _ => true | _ => false) (c.args.map a.eval) := by
      intro b hb
      simp only [resolve, hb]
      rfl
    have hargs := args_all2 hF c.args
    split at hk
    · rename_i f hc
      obtain ⟨g, vs, h1, ⟨h2, h3⟩ | ⟨u, v, h2, h3, h4⟩⟩ := evCall_sound hC hinl hs hf (opd_sound hF f) hargs hk
      · have : (do let d ← resolve a.eval c o.type; invoke d.target d.args : Sem Next).run C.P w = .ok (.enter g (c.args.map a.eval ++ vs)) w := by
          simp only [resolve, hc, Deferred.ofValue, h1, Sem.run_bind, Sem.run_pure, Result.andThen_ok, invoke]
          simpa using run_enter h2
        rw [this]
        refine Calls.mono h3 ?_
        rintro e w' ⟨u, E', H', fp', nx', v, rfl, g1, g2, g3, g4⟩
        exact hnext _ _ _ _ _ _ _ g1 g2 g3 g4
      · have : (do let d ← resolve a.eval c o.type; invoke d.target d.args : Sem Next).run C.P w = .ok (.value u) w := by
          simp only [resolve, hc, Deferred.ofValue, h1, Sem.run_bind, Sem.run_pure, Result.andThen_ok, invoke]
          simpa using h2
        rw [this]
        exact hnext _ _ _ _ _ _ _ h3 h4 hs (Step.refl hf)
    · rename_i x name hc
      unfold evInv at hk
      split at hk
      · rename_i t xa hx
        split at hk
        · rename_i f hfm
          have hxv : RV C.RT E (evOpd F x) (a.eval x) := opd_sound hF x
          rw [hx] at hxv
          have hxr : R C.RT E (.iface t false [xa]) (a.eval x) := hxv
          obtain ⟨v, hv, hr⟩ := R.iface_inv hxr
          have hall : All2 (RV C.RT E) (.at xa :: argsA F c.args.toList) (#[v] ++ c.args.map a.eval).toList := by
            rw [Array.toList_append]
            exact .cons (r := RV C.RT E) hr hargs
          have hme := hC.meths _ (findM_mem hfm) name v (c.args.map a.eval) w rfl
          have hfv : RV C.RT E (.at (.fn (.func f) [])) (.func (.func f) #[] #[]) := R.fn rfl (fun j z hj => by simp at hj)
          have hinv : (do let d ← resolve a.eval c o.type; invoke d.target d.args : Sem Next).run C.P w = (callFunc f (#[v] ++ c.args.map a.eval)).run C.P w := by
            rw [← hme]
            have g0 : (#[Value.iface t v] ++ c.args.map a.eval)[0]? = some (.iface t v) := by
              rw [Array.getElem?_append_left (by simp)]
              rfl
            have g1 : (#[Value.iface t v] ++ c.args.map a.eval).extract 1 (#[Value.iface t v] ++ c.args.map a.eval).size = c.args.map a.eval := by
              rw [Array.extract_append]
              simp
            simp only [resolve, hc, Sem.run_bind, Sem.run_pure, Result.andThen_ok, invoke, hv, g0, g1]
          obtain ⟨g, vs, h1, ⟨h2, h3⟩ | ⟨u, v', h2, h3, h4⟩⟩ := evCall_sound hC hinl hs hf hfv hall hk
          · simp only [Value.func.injEq, Fn.func.injEq, true_and] at h1
            obtain ⟨rfl, rfl⟩ := h1
            have : (do let d ← resolve a.eval c o.type; invoke d.target d.args : Sem Next).run C.P w = .ok (.enter f (#[v] ++ c.args.map a.eval)) w := by
              rw [hinv]
              exact run_enter h2
            rw [this]
            simp only [Array.append_empty] at h3
            refine Calls.mono h3 ?_
            rintro e w' ⟨u, E', H', fp', nx', v', rfl, g1, g2, g3, g4⟩
            exact hnext _ _ _ _ _ _ _ g1 g2 g3 g4
          · simp only [Value.func.injEq, Fn.func.injEq, true_and] at h1
            obtain ⟨rfl, rfl⟩ := h1
            simp only [Array.append_empty] at h2
            rw [hinv, h2]
            exact hnext _ _ _ _ _ _ _ h3 h4 hs (Step.refl hf)
        · simp at hk
      · simp at hk
    · rename_i hc
      rw [hres _ hc]
      split at hk
      · rename_i s x t t2 hal htl
        have hts : c.argTypes = #[t, t2] := by apply Array.ext'; simpa using htl
        rw [hal] at hargs
        generalize hus : (c.args.map a.eval) = us at hargs
        obtain ⟨usl⟩ := us
        cases hargs with
        | cons hr1 h2 =>
          cases h2 with
          | cons hr2 h3 =>
            cases h3
            split at hk
            · rename_i e he
              obtain ⟨v, H', nx', E', fp', u, w', h1, h2, h3, h4, h5⟩ := appendR_sound (P := C.P) (o := o.type) hs hf hr1 hr2 he hk
              have this : ∀ cs, (builtin .append c.argTypes o.type cs (List.toArray [_, _])).run C.P w = .ok (.value u) w' := fun cs => by
                simp only [builtin, hts]
                exact lift _ _ _ h2
              rw [this]
              exact hnext _ _ _ _ _ _ _ h1 h3 h4 h5
            · obtain ⟨v, H', nx', E', fp', u, w', h1, h2, h3, h4, h5⟩ := append_sound (P := C.P) (o := o.type) hs hf hr1 hr2 hk
              have this : ∀ cs, (builtin .append c.argTypes o.type cs (List.toArray [_, _])).run C.P w = .ok (.value u) w' := fun cs => by
                simp only [builtin, hts]
                exact lift _ _ _ h2
              rw [this]
              exact hnext _ _ _ _ _ _ _ h1 h3 h4 h5
      · simp at hk
    · rename_i hc
      rw [hres _ hc]
      split at hk
      · rename_i d s t ts hal htl
        rw [hal] at hargs
        generalize hus : (c.args.map a.eval) = us at hargs
        obtain ⟨usl⟩ := us
        cases hargs with
        | cons hr1 h2 =>
          cases h2 with
          | cons hr2 h3 =>
            cases h3
            obtain ⟨v, H', u, w', h1, h2, h3, h4, h5⟩ := copy_sound (P := C.P) (o := o.type) hs hf hr1 hr2 hk c.argTypes (by rw [← Array.getElem?_toList, htl]; rfl)
            have this : ∀ cs, (builtin .copy c.argTypes o.type cs (List.toArray [_, _])).run C.P w = .ok (.value u) w' := fun cs => by
              simp only [builtin]
              exact lift _ _ _ h2
            rw [this]
            exact hnext _ _ _ _ _ _ _ h1 h3 h4 h5
      · simp at hk
    · simp at hk
  · simp at hk

end Go.Eng
