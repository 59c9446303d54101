/-
  The engine, part fourteen: functions and laws.
  Conditions: none; nothing is claimed of the program here.
-/
import Derived.Test.YtghbobmkkbdhpaaEngCode
import Derived.Below
set_option linter.unusedSimpArgs false
set_option linter.unusedVariables false
namespace Go.Eng
variable {RT : RoTab} {E : Env} {F : Fr} {a : Act} {H : Heap} {fp : Fp} {w : World} {P : Program} {Y : Type} {y : Y} {C : Cfg}

/-- One result. -/
def resOf (tmps : Array Value) : ResultVar → Sem Value
  | .tmp t => pure (tmps.getD t undef)
  | .cell a t => do loadVar t (← asAddr (tmps.getD a undef))

theorem load_var_run {t : TypeId} {u u' : Value} (h : (Instr.loadAt t u).run P w = .ok u' w) : (do loadVar t (← asAddr u) : Sem Value).run P w = .ok u' w := by
  cases u with
  | pointer p =>
    cases p with
    | none => simp [Instr.loadAt, Instr.sureAddr] at h
    | some ad => simpa [Instr.loadAt, Instr.sureAddr, asAddr] using h
  | _ => simp [Instr.loadAt, Instr.sureAddr] at h

theorem results_eq (fn : Func) (tmps : Array Value) : results fn tmps = (do
    let vs ← fn.results.mapM (resOf tmps)
    pure (if h : vs.size = 1 then vs[0] else .tuple vs)) := by
  unfold results
  congr 1

theorem resVars_sound (hs : Sim RT E H fp w) (hF : RF RT E F a) : ∀ {l : List ResultVar} {k : List AV → Option Y}, resVars P H F l k = some y →
    ∃ (vs : List AV) (us : List Value), k vs = some y ∧ (l.mapM (resOf a.tmps)).run P w = .ok us w ∧ All2 (RV RT E) vs us
  | [], k, h => by
    simp only [resVars] at h
    exact ⟨[], [], h, by simp, .nil⟩
  | .tmp t :: r, k, h => by
    simp only [resVars] at h
    obtain ⟨vs, us, h0, h1, h2⟩ := resVars_sound hs hF h
    refine ⟨F t :: vs, a.tmps.getD t undef :: us, h0, ?_, .cons (hF t) h2⟩
    rw [List.mapM_cons]
    simp only [resOf, Sem.run_bind, Sem.run_pure, Result.andThen_ok, h1]
  | .cell x t :: r, k, h => by
    simp only [resVars] at h
    split at h
    · rename_i xa hx
      have hFx := hF x
      rw [hx] at hFx
      obtain ⟨v, u, h0, h1, h2⟩ := load_sound hs (x := xa) hFx h
      obtain ⟨vs, us, g0, g1, g2⟩ := resVars_sound hs hF h0
      refine ⟨v :: vs, u :: us, g0, ?_, .cons h2 g2⟩
      rw [List.mapM_cons]
      have hl : (resOf a.tmps (.cell x t)).run P w = .ok u w := load_var_run h1
      simp only [Sem.run_bind, Sem.run_pure, Result.andThen_ok, g1, hl]
    · simp at h

theorem tupOf_sound : ∀ {vs : List AV} {us : List Value} {ps : List (Bool × List Atom)}, tupOf vs = some ps → All2 (RV RT E) vs us → us.length = ps.length ∧ ∀ j p, ps[j]? = some p → RP RT E p (us.getD j undef)
  | [], _, ps, h, .nil => by
    simp only [tupOf, Option.some.injEq] at h
    subst h
    exact ⟨rfl, fun j p hj => by simp at hj⟩
  | .at x :: r, u :: us, ps, h, .cons hx hs => by
    simp only [tupOf] at h
    split at h
    · rename_i l hl
      simp only [Option.some.injEq] at h
      subst h
      obtain ⟨h1, h2⟩ := tupOf_sound hl hs
      refine ⟨by simp [h1], fun j p hj => ?_⟩
      cases j with
      | zero => simp at hj; subst hj; exact hx
      | succ j => simpa using h2 j p (by simpa using hj)
    · simp at h
  | .agg xs :: r, u :: us, ps, h, .cons hx hs => by
    simp only [tupOf] at h
    split at h
    · rename_i l hl
      simp only [Option.some.injEq] at h
      subst h
      obtain ⟨h1, h2⟩ := tupOf_sound hl hs
      refine ⟨by simp [h1], fun j p hj => ?_⟩
      cases j with
      | zero => simp at hj; subst hj; exact hx
      | succ j => simpa using h2 j p (by simpa using hj)
    · simp at h
  | .tup _ :: _, _ :: _, ps, h, _ => by simp [tupOf] at h

theorem resA_sound {fn : Func} {k : AV → Option Y} (hs : Sim RT E H fp w) (hF : RF RT E F a) (hk : resA P fn F H k = some y) : ∃ v u, k v = some y ∧ (results fn a.tmps).run P w = .ok u w ∧ RV RT E v u := by
  unfold resA at hk
  obtain ⟨vs, us, h0, h1, h2⟩ := resVars_sound hs hF hk
  have hrun : (results fn a.tmps).run P w = .ok (if h : us.toArray.size = 1 then us.toArray[0] else .tuple us.toArray) w := by
    rw [results_eq, Array.mapM_eq_mapM_toList]
    simp only [Sem.run_bind, Sem.run_map, h1, Result.andThen_ok, Sem.run_pure]
  split at h0
  · rename_i v
    cases h2 with
    | cons hx hs =>
      cases hs
      refine ⟨v, _, h0, hrun, ?_⟩
      simpa using hx
  · rename_i hne
    split at h0
    · rename_i ps hps
      obtain ⟨h3, h4⟩ := tupOf_sound hps h2
      refine ⟨_, _, h0, hrun, ?_⟩
      have hlen := h2.length
      have hn1 : ¬ us.toArray.size = 1 := by
        intro he
        have : vs.length = 1 := by simpa [hlen] using he
        match vs, this with
        | [v], _ => exact hne v rfl
      rw [dif_neg hn1]
      refine ⟨us.toArray, rfl, by simpa using h3, fun j p hj => ?_⟩
      simpa [Array.getD_eq_getD_getElem?, List.getD_eq_getElem?_getD] using h4 j p hj
    · simp at h0

/-- A FUNCTION THAT IS CALLED. -/
theorem evFn_sound (hC : CfgOK C) {K : FCfg} (hK : AnnsOK K) {inl : Inl} (hinl : InlOK C inl) {f : Nat} {fn : Func} (hfn : C.P.funcs[f]? = some fn) {args : List AV} {cargs : Array Value} {nx : Nat} {k : KC Y}
    (hs : Sim C.RT E H fp w) (hf : Fresh E nx) (ha : All2 (RV C.RT E) args cargs.toList) (hk : evFn C K inl fn args H nx k = some y) :
    Calls C.P f cargs w fun e w' => ∃ u v E' H' fp' nx', e = .returned u ∧ k v H' nx' = some y ∧ RV C.RT E' v u ∧ Sim C.RT E' H' fp' w' ∧ Trip C E H fp w nx E' H' fp' w' nx' := by
  unfold evFn at hk
  split at hk
  · rename_i c hb
    rw [gate_some] at hk
    obtain ⟨hg, hk⟩ := hk
    simp only [Bool.and_eq_true] at hg
    obtain ⟨hd, hle⟩ := hg
    have hle : cargs.size ≤ fn.ntmps := by
      have h1 := ha.length
      rw [len_eq] at hle
      simp at hle h1
      omega
    have hsz : (cargs ++ Array.replicate (fn.ntmps - cargs.size) undef).size = fn.ntmps := by simp; omega
    have hst : St C.RT E H fp w (entryF args) { tmps := cargs ++ Array.replicate (fn.ntmps - cargs.size) undef, defers := [] } nx fn.ntmps := by
      refine ⟨hs, hf, fun j => ?_, hsz, rfl⟩
      simp only [entryF, nthD_eq]
      cases hj : args[j]? with
      | none =>
        rw [List.getD_eq_getElem?_getD, hj]
        exact R.unk _
      | some x =>
        rw [List.getD_eq_getElem?_getD, hj]
        obtain ⟨z, hz, hr⟩ := ha.get hj
        have hz' : cargs[j]? = some z := by simpa using hz
        have hlt : j < cargs.size := by
          rcases Nat.lt_or_ge j cargs.size with h | h
          · exact h
          · rw [Array.getElem?_eq_none h] at hz'; simp at hz'
        have : (cargs ++ Array.replicate (fn.ntmps - cargs.size) undef).getD j undef = z := by
          rw [Array.getD_eq_getD_getElem?, Array.getElem?_append_left hlt, hz']
          rfl
        simp only [Option.getD_some]
        rw [this]
        exact hr
    refine calls_of_wp hfn hb (wp_mono (evCode_sound hK c C hC hinl Y y _ _ _ _ _ E fp w _ _ hk hst hd) fun e a' w' hq => ?_)
    cases e with
    | normal =>
      obtain ⟨F', H', nx', E', fp', g1, g2, g3, g4⟩ := hq
      obtain ⟨v, u, q1, q2, q3⟩ := resA_sound (P := C.P) (w := w') g2.sim g2.rf g1
      exact ⟨g2.df, u, q2, u, v, E', H', fp', nx', rfl, q1, q3, g2.sim, g3⟩
    | ret =>
      obtain ⟨F', H', nx', E', fp', g1, g2, g3, g4⟩ := hq
      obtain ⟨v, u, q1, q2, q3⟩ := resA_sound (P := C.P) (w := w') g2.sim g2.rf g1
      exact ⟨g2.df, u, q2, u, v, E', H', fp', nx', rfl, q1, q3, g2.sim, g3⟩
    | exit id => obtain ⟨F', H', nx', E', fp', g1, _⟩ := hq; simp at g1
    | goto l => exact hq.elim
    | panic ch => exact hq.elim
    | outgrown => exact hq.elim
  · simp at hk

/-- What is told of calls on the spot is so. -/
def InlsOK (C : Cfg) : Prop := ∀ q ∈ C.inl, AnnsOK q.2 ∧ enters C.P q.1 = true

theorem inlTab_sound (hC : CfgOK C) (hI : InlsOK C) : ∀ d, InlOK C (inlTab C d)
  | 0 => fun Y y g args H nx k E fp w cargs hk => by simp [inlTab] at hk
  | d + 1 => fun Y y g args H nx k E fp w cargs hk hs hf ha => by
    simp only [inlTab] at hk
    split at hk
    · rename_i K fn hfind hfn
      obtain ⟨h1, h2⟩ := hI _ (find_mem hfind)
      refine ⟨h2, ?_⟩
      have hC' : CfgOK { C with hi := nx, mv := [] } := ⟨hC.rt, hC.wide, hC.specs, hC.exts, hC.meths, hC.laws⟩
      have ih : InlOK { C with hi := nx, mv := [] } (inlTab C d) := inlTab_sound hC hI d
      refine Calls.mono (evFn_sound hC' h1 ih hfn hs hf ha hk) ?_
      rintro e w' ⟨u, v, E', H', fp', nx', g1, g2, g3, g4, g5⟩
      refine ⟨u, E', H', fp', nx', v, g1, g2, g3, g4, ⟨⟨fun id I hI => ?_, g5.M⟩, g5.frm, g5.own, g5.nx, g5.fresh, g5.ext⟩⟩
      refine g5.keep id I ?_ (by simp) hI
      rcases Nat.lt_or_ge id nx with h | h
      · exact h
      · rw [hf id h] at hI; simp at hI
    · simp at hk

/-! ### A function's contract -/
def noneIn (l : List Nat) : List Nat → Bool
  | [] => true
  | t :: r => !mem l t && noneIn l r

theorem noneIn_get {l : List Nat} : ∀ {r : List Nat} {t : Nat}, noneIn l r = true → t ∈ l → t ∉ r
  | [], t, _, _ => by simp
  | t' :: r, t, h, hm => by
    simp only [noneIn, Bool.and_eq_true, Bool.not_eq_true'] at h
    intro hr
    rcases List.mem_cons.1 hr with rfl | hr
    · rw [mem_iff.2 hm] at h; simp at h
    · exact noneIn_get h.2 hm hr

/-- A function's shape with its meaning. -/
def Sig.spec (s : Sig) {R : Type} (run : Nat → Leaves → Option R) (enc : R → Leaves) : Spec :=
  ⟨s.args, s.n, s.pre, s.post, s.ret, fun N L _ k => obind (run N L) fun r => k (enc r)⟩

theorem noLent_nil {l : List Nat} (h : noLent l = true) : l = [] := by cases l <;> simp [noLent] at h ⊢

theorem appV_eq (xs ys : List View) : appV xs ys = xs ++ ys := by
  induction xs with
  | nil => rfl
  | cons x xs ih => simp [appV, ih]

theorem wholes_get {l : List (Nat × BPat)} : ∀ {n t i : Nat}, i < n → (wholes l t n)[i]? = some (match isDead l (t + i) with | true => .none | false => .whole (t + i))
  | 0, t, i, h => by omega
  | n + 1, t, 0, h => by simp [wholes]; rfl
  | n + 1, t, i + 1, h => by
    simp only [wholes, List.getElem?_cons_succ]
    rw [wholes_get (by omega), show t + 1 + i = t + (i + 1) by omega]

theorem isDead_live : ∀ {l : List (Nat × BPat)} {t : Nat}, distinct (ids l) = true → t ∈ idsLive l → isDead l t = false
  | [], t, _, h => by simp [idsLive] at h
  | (t', p) :: r, t, hd, h => by
    obtain ⟨hn, hd'⟩ := distinct_cons (t := t') (l := ids r) hd
    have hsub : t ∈ idsLive r → t ≠ t' := fun hr he => by
      obtain ⟨p', hp', _⟩ := idsLive_get hr
      exact hn (he ▸ ids_mem.2 ⟨p', hp'⟩)
    by_cases he : t = t'
    · subst he
      cases p with
      | dead => simp only [idsLive] at h; exact absurd rfl (hsub h)
      | _ => simp [isDead]
    · have hb : Nat.beq t t' = false := by
        cases hb : Nat.beq t t' with
        | false => rfl
        | true => exact absurd (Nat.eq_of_beq_eq_true hb) he
      have hr : t ∈ idsLive r := by
        cases p with
        | dead => exact h
        | _ => simp only [idsLive, List.mem_cons] at h; exact h.resolve_left he
      have := isDead_live hd' hr
      cases p <;> simp [isDead, hb, this]

/-- Where a function ends, its shape is met. -/
theorem sig_end {s : Sig} {R : Type} {dec : Leaves → R} {enc : R → Leaves} {run : Nat → Leaves → Option R} {L : Leaves} {r : R} {v : AV} {u : Value} {H' : Heap} {nx' : Nat} {E' : Env} {fp' : Fp} {w' : World} (hRT : RTok C.RT)
    (hok : specOk (s.spec run enc) = true) (hh : C.hi = s.n ∧ noneIn (idsLive s.post) C.mv = true)
    (henc : ∀ L Lc : Leaves, fAV (enc (dec L)) Lc s.ret = fAV L Lc s.ret ∧ s.post.map (fun q => fBlk (enc (dec L)) Lc q.2) = s.post.map (fun q => fBlk L Lc q.2))
    (hs : Sim noRT E (fHeap L L noHeap s.pre) fp w) (g1 : sigK s L dec v H' nx' = some r) (g2 : RV C.RT E' v u) (g3 : Sim C.RT E' H' fp' w') (g4 : Trip C E (fHeap L L noHeap s.pre) fp w s.n E' H' fp' w' nx') :
    ∃ E2 fp2, RV noRT E2 (fAV (enc r) L s.ret) u ∧ Sim noRT E2 (fHeap (enc r) L noHeap s.post) fp2 w' ∧
      Frm w (OwnAll (fHeap L L noHeap s.pre) fp) w' ∧ (∀ x, OwnAll (fHeap (enc r) L noHeap s.post) fp2 x → x.1 < w.heap.size → OwnAll (fHeap L L noHeap s.pre) fp x) ∧
      (∀ t, t < s.n → t ∈ idsLive s.post → E2.info t = E.info t) ∧ (∀ ad v, E.M ad = some v → E2.M ad = some v) ∧ MExt E (fHeap L L noHeap s.pre) fp w E2 := by
  unfold specOk at hok
  simp only [Bool.and_eq_true] at hok
  obtain ⟨q1, q2, q3, q4, q5, q6, q7, q8, q9, q10, q11, q12⟩ := hok
  simp only [Sig.spec] at q1 q2 q3 q4 q5 q6 q7 q8 q9 q10 q11 q12
  obtain ⟨hh1, hh2⟩ := hh
  unfold sigK at g1
  obtain ⟨m1, h1, e1, k1⟩ := mAV_sound g1
  obtain ⟨m, h2, e2, k2⟩ := mBlks_sound h1
  rw [gate_some] at h2
  obtain ⟨hg, h2⟩ := h2
  simp only [Bool.and_eq_true] at hg
  obtain ⟨hn, hva, hnl⟩ := hg
  obtain ⟨h2, hparts⟩ := partsIn_some h2
  simp only [Option.some.injEq] at h2
  have hret := k1 m e2
  have hbl := k2 m (.refl m)
  simp only [lcOf] at hret hbl
  have hlent := noLent_nil hnl
  have hla : lentApart m.σ m.lent = true := by rw [hlent]; rfl
  have hsim := Sim.base hRT g3 hbl hva hla hparts
  have hrv := matchV_RV hRT g3 hret g2
  obtain ⟨z1, z2⟩ := henc m.leaves L
  have hLr : fAV (enc r) L s.ret = fAV m.leaves L s.ret := by rw [← h2]; exact z1
  have hLp : fHeap (enc r) L noHeap s.post = fHeap m.leaves L noHeap s.post := by rw [← h2]; exact fHeap_congr z2
  refine ⟨baseE E' H' fp' w' m.σ m.lent, baseFp E' fp' m.σ, ?_, ?_, g4.frm, ?_, fun t ht hlv => ?_, fun ad v h => baseE_M (g4.M ad v h), fun ad v h => g4.ext ad v (baseE_none hnl h)⟩
  · rw [hLr]; exact fAV_RT q4 hrv
  · rw [hLp]; exact hsim.anyRT q3
  · rintro x ⟨t, b, hb, hx⟩ hlt
    rw [hLp] at hb
    obtain ⟨v', id, b', _, _, h3, h4⟩ := base_own g3 hbl hparts hb hx
    exact g4.own x ⟨id, b', h3, h4⟩ hlt
  · have hσ0 : (MS.startFn s.post s.n s.m).σ[t]? = some (.whole t) := by
      simp only [MS.startFn, appV_eq]
      have hw := wholes_get (l := s.post) (t := 0) ht
      rw [Nat.zero_add, isDead_live q8 hlv] at hw
      rw [List.getElem?_append_left]
      · exact hw
      · rcases Nat.lt_or_ge t (wholes s.post 0 s.n).length with h | h
        · exact h
        · rw [List.getElem?_eq_none h] at hw; simp at hw
    have hσ := (e1.trans e2).σ t _ hσ0 (by simp)
    rw [baseE_info hσ]
    simp only [viewInfo]
    obtain ⟨p, hp, hpd⟩ := idsLive_get (upTo_mem q11 ht)
    have hb' := fHeap_live (L := L) (Lc := L) q12 hp
    obtain ⟨b, hb0⟩ := (fBlk_live (L := L) (Lc := L)).1 hpd
    rw [hb0] at hb'
    obtain ⟨I, hI, _⟩ := hs.blk t b hb'
    rw [hI]
    exact g4.keep t I (by rw [hh1]; exact ht) (noneIn_get hh2 hlv) hI

theorem args_RT {RT' : RoTab} {L : Leaves} {ps : List VPat} {vs : List Value} (hp : allVs plainP ps = true) (h : All2 (RV RT E) (fAVs L L ps) vs) : All2 (RV RT' E) (fAVs L L ps) vs := by
  rw [fAVs_eq] at h ⊢
  have : ∀ {ps : List VPat} {vs : List Value}, (∀ p ∈ ps, allV plainP p = true) → All2 (RV RT E) (ps.map (fAV L L)) vs → All2 (RV RT' E) (ps.map (fAV L L)) vs := by
    intro ps
    induction ps with
    | nil => intro vs _ h; cases h; exact .nil
    | cons p ps ih =>
      intro vs hp h
      cases h with
      | cons h1 h2 => exact .cons (fAV_RT (hp p (by simp)) h1) (ih (fun q hq => hp q (by simp [hq])) h2)
  exact this (fun p h => allVs_get hp h) h

/-- THE CONTRACT. -/
theorem callOK_of_sig {fn : Func} {f : Nat} {s : Sig} {Cf : Nat → Cfg} {K : Nat → FCfg} {d : Nat} {R : Type} {dec : Leaves → R} {enc : R → Leaves} {run : Nat → Leaves → Option R} (hfn : P.funcs[f]? = some fn)
    (hP : ∀ N, (Cf N).P = P) (hC : ∀ N, CfgOK (Cf N)) (hI : ∀ N, InlsOK (Cf N)) (hK : ∀ N, AnnsOK (K N))
    (hrun : ∀ N L r, run N L = some r → evSig (Cf N) (K N) d fn s L dec = some r) (hok : specOk (s.spec run enc) = true) (hhi : ∀ N, (Cf N).hi = s.n ∧ noneIn (idsLive s.post) (Cf N).mv = true)
    (henc : ∀ L Lc : Leaves, fAV (enc (dec L)) Lc s.ret = fAV L Lc s.ret ∧ s.post.map (fun q => fBlk (enc (dec L)) Lc q.2) = s.post.map (fun q => fBlk L Lc q.2)) :
    CallOK P f (s.spec run enc) where
  ok := hok
  cps := fun N L Y k => by
    simp only [Sig.spec]
    cases run N L <;> simp [obind]
  calls := fun N L L' E fp w args hr hs ha hf => by
    simp only [Sig.spec, obind_some] at hr
    obtain ⟨r, hr, hL'⟩ := hr
    simp only [Option.some.injEq] at hL'
    subst hL'
    have hev := hrun N L r hr
    have hok' := hok
    unfold specOk at hok'
    simp only [Bool.and_eq_true] at hok'
    have q1 := hok'.1
    have q2 := hok'.2.1
    simp only [Sig.spec] at hs ha hf q1 q2 ⊢
    rw [← hP N] at hfn ⊢
    unfold evSig at hev
    refine Calls.mono (evFn_sound (hC N) (hK N) (inlTab_sound (hC N) (hI N) d) hfn (hs.anyRT q2) hf (args_RT q1 ha) hev) ?_
    rintro e w' ⟨u, v, E', H', fp', nx', he, g1, g2, g3, g4⟩
    obtain ⟨E2, fp2, z1, z2, z3, z4, z5, z6, z7⟩ := sig_end (hC N).rt hok (hhi N) henc hs g1 g2 g3 g4
    exact ⟨E2, fp2, u, he, z1, z2, z3, z4, z5, z6, z7⟩

/-! ### Functions that call themselves -/
theorem callOK_rec {f : Nat} {s : Sig} {R : Type} {enc : R → Leaves} {run : Nat → Nat → Leaves → Option R} (h0 : ∀ N L, run N 0 L = none) (hok : specOk (s.spec (fun N L => run N 0 L) enc) = true)
    (step : ∀ n, CallOK P f (s.spec (fun N L => run N n L) enc) → CallOK P f (s.spec (fun N L => run N (n + 1) L) enc)) : ∀ n, CallOK P f (s.spec (fun N L => run N n L) enc)
  | 0 => { ok := hok, cps := fun N L Y k => by simp only [Sig.spec, h0, obind], calls := fun N L L' E fp w args hr => by simp [Sig.spec, h0, obind] at hr }
  | n + 1 => step n (callOK_rec h0 hok step n)

theorem callOK_diag {f : Nat} {s : Sig} {R : Type} {enc : R → Leaves} {run : Nat → Nat → Leaves → Option R} (h : ∀ n, CallOK P f (s.spec (fun N L => run N n L) enc)) : CallOK P f (s.spec (fun N L => run N N L) enc) where
  ok := (h 0).ok
  cps := fun N L Y k => by
    simp only [Sig.spec]
    cases run N N L <;> simp [obind]
  calls := fun N L => (h N).calls N L

/-! ### Laws -/
/-- All that a world holds stays. -/
noncomputable def lawE (w : World) : Env := ⟨fun _ => none, fun a => match a.spot with | none => w.cell? a | some _ => none⟩

theorem law_any (hC : CfgOK C) (hI : InlsOK C) {K : FCfg} (hK : AnnsOK K) {f d : Nat} {fn : Func} (hfn : C.P.funcs[f]? = some fn) {args : List AV} {cargs : Array Value} {b : Bool}
    (hs : Sim C.RT E noHeap (fun _ _ => False) w) (hf : ∀ id, E.info id = none) (ha : All2 (RV C.RT E) args cargs.toList) (hk : evLaw C K d fn args = some b) :
    Calls C.P f cargs w fun e w' => e = .returned (.bool b) ∧ Frm w (fun _ => False) w' := by
  refine Calls.mono (evFn_sound hC hK (inlTab_sound hC hI d) hfn hs (fun id _ => hf id) ha hk) ?_
  rintro e w' ⟨u, v, E', H', fp', nx', he, g1, g2, g3, g4⟩
  unfold lawK at g1
  split at g1
  · simp only [Option.some.injEq] at g1
    subst g1
    have : u = .bool _ := R.bool_inv g2
    subst this
    exact ⟨he, g4.frm.mono fun x ⟨id, b, hb, _⟩ => by simp [noHeap] at hb⟩
  · simp at g1

theorem law_sound (hC : CfgOK C) (hI : InlsOK C) {K : FCfg} (hK : AnnsOK K) {f d : Nat} {fn : Func} (hfn : C.P.funcs[f]? = some fn) {args : List AV} {cargs : Array Value}
    (ha : All2 (RV C.RT (lawE w)) args cargs.toList) (hk : evLaw C K d fn args = some true) :
    Calls C.P f cargs w fun e w' => e = .returned (.bool true) ∧ Frm w (fun _ => False) w' := by
  have hs : Sim C.RT (lawE w) noHeap (fun _ _ => False) w := by
    refine ⟨fun id b hb => by simp [noHeap] at hb, fun i j b c x hb => by simp [noHeap] at hb, fun ad v h => ?_⟩
    simp only [lawE] at h
    split at h
    · rename_i hs
      exact ⟨hs, h, fun i b hb => by simp [noHeap] at hb⟩
    · simp at h
  refine Calls.mono (evFn_sound hC hK (inlTab_sound hC hI d) hfn hs (fun id _ => rfl) ha hk) ?_
  rintro e w' ⟨u, v, E', H', fp', nx', he, g1, g2, g3, g4⟩
  unfold lawK at g1
  split at g1
  · simp only [Option.some.injEq] at g1
    subst g1
    have : u = .bool true := R.bool_inv g2
    subst this
    exact ⟨he, g4.frm.mono fun x ⟨id, b, hb, _⟩ => by simp [noHeap] at hb⟩
  · simp at g1

end Go.Eng
