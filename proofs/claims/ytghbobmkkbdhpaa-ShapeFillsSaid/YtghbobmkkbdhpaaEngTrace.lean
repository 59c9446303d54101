/-
  The engine, part twelve (c): what happens in the text's order, written down.
  Conditions: none; nothing is claimed of the program here.
-/
import Derived.Test.YtghbobmkkbdhpaaEngDraw
set_option linter.unusedSimpArgs false
set_option linter.unusedVariables false
namespace Go.Eng
variable {RT : RoTab} {E : Env} {F : Fr} {a : Act} {H : Heap} {fp : Fp} {w : World} {P : Program} {Y : Type} {y : Y} {C : Cfg} {K : FCfg} {ops : Array Oper}

/-- Ahead of an operation: is it wanted, what stands where, how many have turned memory; and its value. -/
structure Rec where
  wd : Bool
  F : Fr
  H : Heap
  nx : Nat
  τ : Nat
  v : AV

/-- Where the guard's slot is so. -/
def GuardRel (ops : Array Oper) (o : Oper) (RT : RoTab) (E : Env) (F : Fr) (a : Act) : Prop :=
  ∀ g want d, o.guard = some (g, want) → dstAt ops.toList g = some d → RV RT E (F d) (a.tmps.getD d undef)

/-- Whether it is wanted is known by the frame. -/
def WantIs (ops : Array Oper) (o : Oper) (F : Fr) (b : Bool) : Prop :=
  ∀ (RT : RoTab) (E : Env) (a : Act), GuardRel ops o RT E F a → Region.wanted o (yielded ops a.tmps) = b

theorem evGuard_all {o : Oper} {yes no : Fr → Option Y} (hk : evGuard ops.toList o F yes no = some y) :
    (WantIs ops o F true ∧ yes F = some y) ∨ (WantIs ops o F false ∧ no F = some y) := by
  unfold evGuard at hk
  split at hk
  · rename_i hg
    exact Or.inl ⟨fun _ _ _ _ => by simp [Region.wanted, hg], hk⟩
  · rename_i g want hg
    split at hk
    · simp at hk
    · rename_i d hd
      split at hk
      · rename_i b hb
        have hy : ∀ RT E a, GuardRel ops o RT E F a → yielded ops a.tmps g = some b := by
          intro RT E a hF
          have hv := hF g want d hg hd
          rw [hb] at hv
          have hv' : R RT E (.bool b) (a.tmps.getD d undef) := hv
          have hv2 := getD_bool (R.bool_inv hv')
          unfold dstAt at hd
          split at hd
          · rename_i og hog
            rw [nth_eq] at hog
            have : ops[g]? = some og := by simpa using hog
            simp [yielded, this, hd, hv2]
          · simp at hd
        cases b with
        | true =>
          simp only [br] at hk
          rw [putF_id F d hb] at hk
          cases want with
          | true => exact Or.inl ⟨fun RT E a hF => by simp [Region.wanted, hg, hy RT E a hF], hk⟩
          | false => exact Or.inr ⟨fun RT E a hF => by simp [Region.wanted, hg, hy RT E a hF], hk⟩
        | false =>
          simp only [br] at hk
          rw [putF_id F d hb] at hk
          cases want with
          | true => exact Or.inr ⟨fun RT E a hF => by simp [Region.wanted, hg, hy RT E a hF], hk⟩
          | false => exact Or.inl ⟨fun RT E a hF => by simp [Region.wanted, hg, hy RT E a hF], hk⟩
      · rename_i hb
        have hy : ∀ RT E a, GuardRel ops o RT E F a → yielded ops a.tmps g = none := by
          intro RT E a hF
          have hv := hF g want d hg hd
          rw [hb] at hv
          have hv' : R RT E .und (a.tmps.getD d undef) := hv
          exact yielded_und hd (R.und_inv hv')
        exact Or.inr ⟨fun RT E a hF => by simp [Region.wanted, hg, hy RT E a hF], hk⟩
      · simp at hk

/-- From the record ahead of an operation to the one behind it. -/
def RecOK (C : Cfg) (K : FCfg) (ops : Array Oper) (o : Oper) (r r' : Rec) : Prop :=
  (r.wd = false ∧ WantIs ops o r.F false ∧ r.v = .at .und ∧ r'.F = putO r.F o.dst r.v ∧ r'.H = r.H ∧ r'.nx = r.nx ∧ r'.τ = r.τ) ∨
  (r.wd = true ∧ WantIs ops o r.F true ∧ r'.F = putO r.F o.dst r.v ∧
    ((isC K o = true ∧ evC C noInl r.H r.nx r.F o.op (fun v H n => some (v, H, n)) = some (r.v, r'.H, r'.nx) ∧ r'.τ = r.τ + 1) ∨
     (isC K o = false ∧ isLit K o = true ∧ evLit C.P r.F o.op some = some r.v ∧ r'.H = r.H ∧ r'.nx = r.nx ∧ r'.τ = r.τ) ∨
     (isC K o = false ∧ isLit K o = false ∧ evR C.P C.RT r.H r.F o.op some = some r.v ∧ r'.H = r.H ∧ r'.nx = r.nx ∧ r'.τ = r.τ)))

/-- All records of a region, from number i on. -/
structure TraceOK (C : Cfg) (K : FCfg) (ops : Array Oper) (ancs : List Nat) (k : KS Y) (y : Y) (i m : Nat) (F : Fr) (H : Heap) (nx : Nat) (hs : List Heap) (chs : List Nat) (rds : List Rd)
    (r : Nat → Rec) (hsF : List Heap) (chsF : List Nat) (rdsF : List Rd) : Prop where
  start : (r i).F = F ∧ (r i).H = H ∧ (r i).nx = nx ∧ (r i).τ = chs.length
  step : ∀ j o, i ≤ j → ops[j]? = some o → RecOK C K ops o (r j) (r (j + 1))
  heap : ∀ j, i ≤ j → j ≤ i + m → hsF[(r j).τ]? = some (r j).H
  pre : ∃ t, hsF = hs ++ t
  cpre : ∃ t, chsF = chs ++ t
  rpre : ∀ rd, rd ∈ rds → rd ∈ rdsF
  last : (r (i + m)).τ = chsF.length
  ch : ∀ j o, i ≤ j → ops[j]? = some o → isC K o = true → (r j).wd = true → chsF[(r j).τ]? = some j
  chI : ∀ t c, chs.length ≤ t → chsF[t]? = some c → i ≤ c ∧ (r c).τ = t ∧ ∃ o, ops[c]? = some o ∧ isC K o = true ∧ (r c).wd = true
  rd : ∀ j o, i ≤ j → ops[j]? = some o → isC K o = false → isLit K o = false → looks (r j).F o = true → (r j).wd = true → (⟨j, o.op, (r j).F, (r j).v, (r j).τ⟩ : Rd) ∈ rdsF
  fin : checkRds C ancs chsF hsF rdsF (k (r (i + m)).F (r (i + m)).H (r (i + m)).nx) = some y

theorem TraceOK.cons {ancs : List Nat} {k : KS Y} {i m : Nat} {o : Oper} {F' : Fr} {H' : Heap} {nx nx' : Nat} {hs t1 : List Heap} {chs t2 : List Nat} {rds rds' : List Rd} {r : Nat → Rec} {hsF : List Heap} {chsF : List Nat} {rdsF : List Rd} {wd : Bool} {v : AV}
    (ho : ops[i]? = some o) (h : TraceOK C K ops ancs k y (i + 1) m F' H' nx' (hs ++ t1) (chs ++ t2) rds' r hsF chsF rdsF)
    (hstep : RecOK C K ops o ⟨wd, F, H, nx, chs.length, v⟩ (r (i + 1))) (hhs : hs[chs.length]? = some H) (hrd : ∀ rd, rd ∈ rds → rd ∈ rds')
    (ht2 : (isC K o = true ∧ wd = true ∧ t2 = [i]) ∨ ((isC K o = false ∨ wd = false) ∧ t2 = []))
    (hrd2 : isC K o = false → isLit K o = false → looks F o = true → wd = true → (⟨i, o.op, F, v, chs.length⟩ : Rd) ∈ rds') :
    TraceOK C K ops ancs k y i (m + 1) F H nx hs chs rds (fun j => if j = i then ⟨wd, F, H, nx, chs.length, v⟩ else r j) hsF chsF rdsF := by
  have hne : ∀ {j}, i + 1 ≤ j → j ≠ i := fun {j} h => by omega
  have hpre : ∃ t, hsF = hs ++ t := by
    obtain ⟨t, ht⟩ := h.pre
    exact ⟨t1 ++ t, by rw [ht, List.append_assoc]⟩
  have hcpre : ∃ t, chsF = chs ++ t := by
    obtain ⟨t, ht⟩ := h.cpre
    exact ⟨t2 ++ t, by rw [ht, List.append_assoc]⟩
  have hlast : i + (m + 1) = i + 1 + m := by omega
  refine ⟨by simp, fun j o' hj ho' => ?_, fun j hj hjm => ?_, hpre, hcpre, fun rd hr => h.rpre rd (hrd rd hr), ?_, fun j o' hj ho' hc hw => ?_, fun t c ht hc => ?_, fun j o' hj ho' hc hl hk hw => ?_, ?_⟩
  · by_cases he : j = i
    · subst he
      rw [ho] at ho'
      obtain rfl := Option.some.inj ho'
      simp only [if_true, if_neg (show j + 1 ≠ j by omega)]
      exact hstep
    · simp only [if_neg he, if_neg (show j + 1 ≠ i by omega)]
      exact h.step j o' (by omega) ho'
  · by_cases he : j = i
    · subst he
      simp only [if_true]
      obtain ⟨t, ht⟩ := hpre
      rw [ht, List.getElem?_append_left]
      · exact hhs
      · rcases Nat.lt_or_ge chs.length hs.length with h' | h'
        · exact h'
        · rw [List.getElem?_eq_none h'] at hhs; simp at hhs
    · simp only [if_neg he]
      exact h.heap j (by omega) (by omega)
  · rw [if_neg (show i + (m + 1) ≠ i by omega), hlast]
    exact h.last
  · by_cases he : j = i
    · subst he
      rw [ho] at ho'
      obtain rfl := Option.some.inj ho'
      simp only [if_true] at hw ⊢
      rcases ht2 with ⟨_, _, rfl⟩ | ⟨h1 | h1, _⟩
      · obtain ⟨t, ht⟩ := h.cpre
        rw [ht]
        simp
      · rw [hc] at h1; simp at h1
      · rw [hw] at h1; simp at h1
    · simp only [if_neg he] at hw ⊢
      exact h.ch j o' (by omega) ho' hc hw
  · by_cases he : chs.length + t2.length ≤ t
    · obtain ⟨h1, h2, h3⟩ := h.chI t c (by simpa using he) hc
      refine ⟨by omega, ?_, ?_⟩
      · rw [if_neg (hne h1)]; exact h2
      · simp only [if_neg (hne h1)]; exact h3
    · rcases ht2 with ⟨h1, h2, rfl⟩ | ⟨_, rfl⟩
      · simp only [List.length_singleton] at he
        have ht' : t = chs.length := by omega
        subst ht'
        obtain ⟨t', ht'⟩ := h.cpre
        rw [ht'] at hc
        simp at hc
        subst hc
        exact ⟨Nat.le_refl _, by simp, o, ho, h1, by simp [h2]⟩
      · simp only [List.length_nil] at he; omega
  · by_cases he : j = i
    · subst he
      rw [ho] at ho'
      obtain rfl := Option.some.inj ho'
      simp only [if_true] at hk hw ⊢
      exact h.rpre _ (hrd2 hc hl hk hw)
    · simp only [if_neg he] at hk hw ⊢
      exact h.rd j o' (by omega) ho' hc hl hk hw
  · rw [if_neg (show i + (m + 1) ≠ i by omega), hlast]
    exact h.fin

theorem len_eq' {α : Type} : ∀ l : List α, len l = l.length
  | [] => rfl
  | _ :: r => by simp [len, len_eq' r]

/-- WHAT HAPPENS IN THE TEXT'S ORDER. -/
theorem evOpsA_trace (hC : CfgOK C) {ancs : List Nat} {k : KS Y} : ∀ (os : List Oper) (i : Nat) (F : Fr) (H : Heap) (nx : Nat) (hs : List Heap) (chs : List Nat) (rds : List Rd),
    evOpsA C K noInl ops.toList ancs i os F H nx hs chs rds k = some y → hs[chs.length]? = some H → hs.length = chs.length + 1 → (∀ j, os[j]? = ops[i + j]?) →
    ∃ r hsF chsF rdsF, TraceOK C K ops ancs k y i os.length F H nx hs chs rds r hsF chsF rdsF
  | [], i, F, H, nx, hs, chs, rds, hk, hh, hl, ho => by
    simp only [evOpsA] at hk
    refine ⟨fun _ => ⟨false, F, H, nx, chs.length, .at .unk⟩, hs, chs, rds, ⟨⟨rfl, rfl, rfl, rfl⟩, fun j o hj hjo => ?_, fun j _ _ => hh, ⟨[], by simp⟩, ⟨[], by simp⟩, fun _ h => h, rfl,
      fun j o hj hjo => ?_, fun t c ht hc => ?_, fun j o hj hjo => ?_, hk⟩⟩
    · have := ho (j - i)
      rw [show i + (j - i) = j by omega, hjo] at this
      simp at this
    · have := ho (j - i)
      rw [show i + (j - i) = j by omega, hjo] at this
      simp at this
    · rw [List.getElem?_eq_none (by omega)] at hc; simp at hc
    · have := ho (j - i)
      rw [show i + (j - i) = j by omega, hjo] at this
      simp at this
  | o :: os, i, F, H, nx, hs, chs, rds, hk, hh, hl, ho => by
    have ho0 : ops[i]? = some o := by simpa using (ho 0).symm
    have ho' : ∀ j, os[j]? = ops[i + 1 + j]? := fun j => by
      have := ho (j + 1)
      rw [show i + (j + 1) = i + 1 + j by omega] at this
      simpa using this
    simp only [evOpsA] at hk
    rcases evGuard_all hk with ⟨hw, hk⟩ | ⟨hw, hk⟩
    · simp only [evOne] at hk
      cases hc : isC K o with
      | true =>
        simp only [hc, named_eq] at hk
        obtain ⟨⟨v, H', nx'⟩, h1, h2⟩ := evC_cp hC hk
        simp only at h2
        rw [snoc_eq, snoc_eq] at h2
        obtain ⟨r, hsF, chsF, rdsF, ht⟩ := evOpsA_trace hC os (i + 1) _ _ _ _ _ _ h2 (by
          rw [List.getElem?_append_right (by simp; omega)]
          simp [hl]) (by simp [hl]) ho'
        obtain ⟨s1, s2, s3, s4⟩ := ht.start
        refine ⟨_, hsF, chsF, rdsF, ht.cons (wd := true) (v := v) ho0 (Or.inr ⟨rfl, hw, s1, Or.inl ⟨hc, ?_, by rw [s4]; simp⟩⟩) hh (fun _ h => h) (Or.inl ⟨hc, rfl, rfl⟩) (fun h => by rw [hc] at h; simp at h)⟩
        rw [s2, s3]; exact h1
      | false =>
        simp only [hc] at hk
        cases hlit : isLit K o with
        | true =>
          simp only [hlit] at hk
          obtain ⟨v, h1, h2⟩ := evLit_cp _ _ _ hk
          have hlk : looks F o = false := by
            unfold isLit at hlit
            unfold looks
            split at hlit
            · rename_i hop _; simp [hop]
            · simp at hlit
          simp only [hlk] at h2
          obtain ⟨r, hsF, chsF, rdsF, ht⟩ := evOpsA_trace hC os (i + 1) _ _ _ hs chs rds h2 hh hl ho'
          obtain ⟨s1, s2, s3, s4⟩ := ht.start
          refine ⟨_, hsF, chsF, rdsF, TraceOK.cons (t1 := []) (t2 := []) (wd := true) (v := v) ho0 (by simpa using ht) (Or.inr ⟨rfl, hw, s1, Or.inr (Or.inl ⟨hc, hlit, h1, s2, s3, s4⟩)⟩) hh (fun _ h => h) (Or.inr ⟨Or.inl hc, rfl⟩) (fun _ h => by rw [hlit] at h; simp at h)⟩
        | false =>
          simp only [hlit, named_eq] at hk
          obtain ⟨v, h1, h2⟩ := evR_cp _ _ _ hk
          cases hlk : looks F o with
          | true =>
            simp only [hlk] at h2
            obtain ⟨r, hsF, chsF, rdsF, ht⟩ := evOpsA_trace hC os (i + 1) _ _ _ hs chs _ h2 hh hl ho'
            obtain ⟨s1, s2, s3, s4⟩ := ht.start
            refine ⟨_, hsF, chsF, rdsF, TraceOK.cons (t1 := []) (t2 := []) (wd := true) (v := v) ho0 (by simpa using ht) (Or.inr ⟨rfl, hw, s1, Or.inr (Or.inr ⟨hc, hlit, h1, s2, s3, s4⟩)⟩) hh (fun _ h => by simp [h]) (Or.inr ⟨Or.inl hc, rfl⟩) (fun _ _ _ _ => by simp [len_eq'])⟩
          | false =>
            simp only [hlk] at h2
            obtain ⟨r, hsF, chsF, rdsF, ht⟩ := evOpsA_trace hC os (i + 1) _ _ _ hs chs _ h2 hh hl ho'
            obtain ⟨s1, s2, s3, s4⟩ := ht.start
            refine ⟨_, hsF, chsF, rdsF, TraceOK.cons (t1 := []) (t2 := []) (wd := true) (v := v) ho0 (by simpa using ht) (Or.inr ⟨rfl, hw, s1, Or.inr (Or.inr ⟨hc, hlit, h1, s2, s3, s4⟩)⟩) hh (fun _ h => h) (Or.inr ⟨Or.inl hc, rfl⟩) (fun _ _ h => by rw [hlk] at h; simp at h)⟩
    · obtain ⟨r, hsF, chsF, rdsF, ht⟩ := evOpsA_trace hC os (i + 1) _ _ _ hs chs _ hk hh hl ho'
      obtain ⟨s1, s2, s3, s4⟩ := ht.start
      refine ⟨_, hsF, chsF, rdsF, TraceOK.cons (t1 := []) (t2 := []) (wd := false) (v := .at .und) ho0 (by simpa using ht) (Or.inl ⟨rfl, hw, rfl, s1, s2, s3, s4⟩) hh (fun _ h => h) (Or.inr ⟨Or.inr rfl, rfl⟩) (fun _ _ _ h => by simp at h)⟩

end Go.Eng
