/-
  Layer 17: the plain twin's vector that is near is the program's; it has just so many pulses, and no sign turned: the statement PvqNear.
  Conditions: none.
-/
import Derived.Test.YtghbobmkkbdhpaaPlBaseToPlPvq6
set_option linter.unusedVariables false
set_option linter.unusedSimpArgs false
namespace Go.Pl
open Go.Eng Go.Proofs
set_option maxRecDepth 100000
section
variable {N : Nat}
theorem sz1_zip : ∀ (x B : List Int), x.length = B.length → NN B → ((sz1 (List.zipWith sg x B) : Nat) : Int) = sumL B
  | [], [], _, _ => rfl
  | [], _ :: _, h, _ => by simp at h
  | _ :: _, [], h, _ => by simp at h
  | v :: x, y :: B, h, hB => by
    obtain ⟨b0, b1⟩ := hB.tail
    have ih := sz1_zip x B (by simpa using h) b1
    simp only [List.zipWith_cons_cons, sumL, sz1_cons, Int.natCast_add]
    rw [ih]
    unfold sg
    split <;> omega
theorem zip_sign : ∀ (x B : List Int), x.length = B.length → NN B → ∀ i, ((List.zipWith sg x B).getD i 0 > 0 → ¬ x.getD i 0 < 0) ∧ ((List.zipWith sg x B).getD i 0 < 0 → x.getD i 0 < 0)
  | [], [], _, _, i => by simp
  | [], _ :: _, h, _, _ => by simp at h
  | _ :: _, [], h, _, _ => by simp at h
  | v :: x, y :: B, h, hB, i => by
    obtain ⟨b0, b1⟩ := hB.tail
    cases i with
    | zero =>
      simp only [List.zipWith_cons_cons, List.getD_cons_zero]
      unfold sg
      split <;> omega
    | succ i =>
      have := zip_sign x B (by simpa using h) b1 i
      simpa using this
theorem near_spec {x : List Int} {k : Int} (h1 : 1 ≤ x.length) (hk : 0 ≤ k) : (nearL x k).length = x.length ∧ ((sz1 (nearL x k) : Nat) : Int) = k ∧ ∀ i, ((nearL x k).getD i 0 > 0 → ¬ x.getD i 0 < 0) ∧ ((nearL x k).getD i 0 < 0 → x.getD i 0 < 0) := by
  unfold nearL
  by_cases c : sumL (x.map mg) = 0
  · rw [if_pos c]
    cases x with
    | nil => simp at h1
    | cons v x =>
      have hm := mg_range v
      have hs := sum_map_mg x
      simp only [List.map_cons, sumL] at c
      have hv : v = 0 := by
        have : mg v = 0 := by omega
        unfold mg c24 at this
        split at this
        · omega
        · split at this <;> omega
      have hz := sz1_zeros x.length
      simp only [List.length_cons, List.replicate_succ, List.set_cons_zero]
      refine ⟨by simp, by rw [sz1_cons, hz]; omega, fun i => ?_⟩
      cases i with
      | zero => simp only [List.getD_cons_zero]; omega
      | succ i =>
        have : (List.replicate x.length (0 : Int)).getD i 0 = 0 := by
          rw [List.getD_eq_getElem?_getD, List.getElem?_replicate]
          split <;> rfl
        simp only [List.getD_cons_succ, this]
        omega
  · rw [if_neg c]
    obtain ⟨n0, n1⟩ := near_facts (x := x) h1 (k := k) hk c
    obtain ⟨g1, g2, g3⟩ := grow_facts (x.map mg) k (sumL (x.map mg)) (n := x.length) h1 (k - sumL ((x.map mg).map fun z => k * z / sumL (x.map mg))).toNat ((x.map mg).map fun z => k * z / sumL (x.map mg)) (by simp) n1
    exact ⟨by rw [List.length_zipWith, g1, Nat.min_self], by rw [sz1_zip _ _ g1.symm g2]; omega, zip_sign _ _ g1.symm g2⟩
end
end Go.Pl
/-
  Layer 20: a band that is written: what it costs, and how it is read.
  Conditions: none.
-/
namespace Go.Pl
open Go.Eng Go.Proofs
set_option maxRecDepth 100000
theorem E.tk_cost {e : E} (h : e.Ok) {fl ft : Int} (p : Place fl (fl + 1) ft) {m : Nat} (hm : ft ≤ 2 ^ m) (hm2 : m ≤ 16) : (e.tk fl (fl + 1) ft).tell ≤ e.tell + m := by
  obtain ⟨k1, k2, k3, k4, k5, k6, k7⟩ := E.tk0_facts h p
  have hpre := E.tk0_pre h p
  unfold E.tk
  rw [E.on_tell hpre.r0]
  have hs := E.tk0_same e fl (fl + 1) ft
  have t0 := p.t0
  have hle : e.rng / ft ≤ (e.tk0 fl (fl + 1) ft).rng := by
    unfold E.tk0
    have e1 : e.rng / ft * (fl + 1 - fl) = e.rng / ft := by rw [show fl + 1 - fl = 1 by omega, Int.mul_one]
    split
    · show _ ≤ e.rng / ft * (fl + 1 - fl)
      omega
    · have : fl = 0 := by have := p.a; omega
      subst this
      show _ ≤ e.rng - e.rng / ft * (ft - (0 + 1))
      have e2 : e.rng / ft * (ft - (0 + 1)) = e.rng / ft * ft - e.rng / ft := by grind
      omega
  have hp := p2pos m
  have hp2 := p2le (a := m) (b := 16) hm2
  rw [show (2 : Int) ^ 16 = 65536 from rfl] at hp2
  have h2 : e.rng / 2 ^ m ≤ e.rng / ft := by
    rw [Int.le_ediv_iff_mul_le (by omega)]
    have a1 : e.rng / 2 ^ m * ft ≤ e.rng / 2 ^ m * 2 ^ m := Int.mul_le_mul_of_nonneg_left hm (Int.ediv_nonneg (by have := h.r0; omega) (by omega))
    have a2 := Int.ediv_mul_le e.rng (show (2 : Int) ^ m ≠ 0 by omega)
    omega
  have h3 : 1 ≤ e.rng / 2 ^ m := by
    rw [Int.le_ediv_iff_mul_le hp]
    have := h.g
    omega
  have h4 := bl_shift m h3
  have h5 := bl_mono h2
  have h6 := bl_mono hle
  unfold E.tell E.count
  rw [hs.1, hs.2.2]
  omega
theorem E.un_cost {e : E} (h : e.Ok) {v ft : Int} (v0 : 0 ≤ v) (v1 : v < ft) (h1 : ft ≤ 4294967295) : (e.un v ft).tell ≤ e.tell + bl (ft - 1) := by
  have hn := bl_nonneg (ft - 1)
  unfold E.un
  split
  · omega
  · split
    · obtain ⟨k, e1, a1, a2⟩ := bl_spec (x := ft - 1) (by omega)
      have hk : k + 1 ≤ 8 := by
        have := bl_le (x := ft - 1) (n := 8) (by omega)
        omega
      have := E.tk_cost h (un_place v0 v1 (by omega)) (m := k + 1) (by omega) (by omega)
      omega
    · obtain ⟨b0, b1, b2, u0, u1⟩ := ub_range (ft := ft) (by omega) h1
      have := E.tk_cost h (ug_place v0 v1 (by omega) h1).1 (m := 8) (by omega) (by omega)
      rw [E.bt_tell]
      omega
def st (n : Int) (i : Nat) : Int := (i : Int) * n / pN n
theorem st_step (n : Int) (i : Nat) : st n i + pcv n i = st n (i + 1) := by
  have := pc_start (n := n) i
  unfold st
  omega
theorem st_range {n : Int} (h0 : 1 ≤ n) (h1 : n ≤ 1000) {i : Nat} (hi : i ≤ pN n) : 0 ≤ st n i ∧ st n i ≤ n := by
  obtain ⟨p0, p1, _⟩ := pN_range h0 h1
  refine ⟨Int.ediv_nonneg (pc_small h0 h1 (by omega)).1 (by omega), ?_⟩
  have h : (i : Int) * n ≤ pN n * n := Int.mul_le_mul_of_nonneg_right (by omega) (by omega)
  have := Int.ediv_le_ediv (show (0 : Int) < pN n by omega) h
  rw [pc_end h0 h1] at this
  exact this
def pc (f : List Int) (n : Int) (i : Nat) : List Int := ((f.drop (st n i).toNat).take (pcv n i).toNat)
theorem pc_len {f : List Int} {n : Int} (hn : (f.length : Int) = n) (h0 : 1 ≤ n) (h1 : n ≤ 1000) {i : Nat} (hi : i < pN n) : (pc f n i).length = (pcv n i).toNat := by
  have a := st_range h0 h1 (i := i) (by omega)
  have b := st_range h0 h1 (i := i + 1) (by omega)
  have c := st_step n i
  have d := pcv_range h0 h1 i
  unfold pc
  rw [List.length_take, List.length_drop]
  omega
def pk (n bb : Int) (i : Nat) : Nat := kOf (pcv n i).toNat (spv n bb i)
def py (f : List Int) (n bb : Int) (i : Nat) : List Int := nearL (pc f n i) (pk n bb i)
noncomputable def wr (f : List Int) (n bb e : Int) : Nat → Nat → E → Int → List Int → E × Int × List Int
  | 0, _, en, s, out => (en, s, out)
  | m + 1, i, en, s, out =>
    if pk n bb i = 0 then wr f n bb e m (i + 1) en (hsh (hv e) (pcv n i).toNat s).2 (out ++ (hsh (hv e) (pcv n i).toNat s).1)
    else wr f n bb e m (i + 1) (en.un (ix (py f n bb i) (pk n bb i)) (cnt (pcv n i).toNat (pk n bb i))) s (out ++ fillV (sz (cl e)) (py f n bb i))
theorem py_facts {f : List Int} {n bb : Int} (hn : (f.length : Int) = n) (h0 : 1 ≤ n) (h1 : n ≤ 1000) {i : Nat} (hi : i < pN n) :
    ∃ mm : Nat, pcv n i = mm ∧ 1 ≤ mm ∧ mm ≤ 16 ∧ (pc f n i).length = mm ∧ (py f n bb i).length = mm ∧ sz1 (py f n bb i) = pk n bb i ∧ (pk n bb i : Int) ≤ mostT mm ∧ pk n bb i ≤ 64 ∧ pk n bb i = kOf mm (spv n bb i) ∧
      1 ≤ cnt mm (pk n bb i) ∧ cnt mm (pk n bb i) < 4294967296 ∧ 0 ≤ ix (py f n bb i) (pk n bb i) ∧ ix (py f n bb i) (pk n bb i) < cnt mm (pk n bb i) ∧ vec mm (pk n bb i) (ix (py f n bb i) (pk n bb i)) = py f n bb i := by
  obtain ⟨r0, r1⟩ := pcv_range h0 h1 i
  obtain ⟨mm, hmm⟩ : ∃ mm : Nat, pcv n i = mm := ⟨(pcv n i).toNat, by omega⟩
  have hl := pc_len hn h0 h1 hi
  have hpk : pk n bb i = kOf mm (spv n bb i) := by unfold pk; rw [hmm, Int.toNat_natCast]
  have hk := kOf_le mm (spv n bb i)
  rw [← hpk] at hk
  rw [hmm, Int.toNat_natCast] at hl
  have hs := near_spec (x := pc f n i) (k := (pk n bb i : Int)) (by omega) (by omega)
  have hlen : (py f n bb i).length = mm := by unfold py; rw [hs.1, hl]
  have hsz : sz1 (py f n bb i) = pk n bb i := by have := hs.2.1; unfold py; omega
  have hu := un_most (n := mm) (k := pk n bb i) (by omega) (by omega) hk.1
  have hix := ix_spec (py f n bb i) (pk n bb i) hsz (by rw [hlen]; exact hu)
  rw [hlen] at hix
  have hp : 1 ≤ cnt mm (pk n bb i) := by
    obtain ⟨m', rfl⟩ : ∃ m', mm = m' + 1 := ⟨mm - 1, by omega⟩
    exact cnt_pos m' _
  exact ⟨mm, hmm, by omega, by omega, hl, hlen, hsz, hk.1, by omega, hpk, hp, hu, hix⟩
def shs (n bb : Int) (i : Nat) : Int := (i : Int) * (bb / pN n) + min (i : Int) (bb % pN n)
theorem shs_step (n bb : Int) (i : Nat) : shs n bb i + spv n bb i = shs n bb (i + 1) := by
  unfold shs spv
  have : ((i + 1 : Nat) : Int) * (bb / pN n) = (i : Int) * (bb / pN n) + bb / pN n := by rw [Int.natCast_add]; grind
  rw [this]
  split <;> omega
theorem shs_end {n bb : Int} (h : 1 ≤ pN n) : shs n bb (pN n) = bb := by
  unfold shs
  have h1 := Int.emod_lt_of_pos bb (show (0 : Int) < pN n by omega)
  have h2 := Int.mul_ediv_add_emod bb (pN n : Int)
  omega
theorem wr_facts {f : List Int} {n bb e : Int} (hn : (f.length : Int) = n) (h0 : 1 ≤ n) (h1 : n ≤ 1000) (b0 : 0 ≤ bb) : ∀ (m i : Nat) (en : E) (s : Int) (out : List Int), i + m = pN n → en.Ok → 0 ≤ s → s < 4294967296 →
    (wr f n bb e m i en s out).1.Ok ∧ en.k ≤ (wr f n bb e m i en s out).1.k ∧ (wr f n bb e m i en s out).1.k ≤ en.k + 4 * m ∧ en.r ≤ (wr f n bb e m i en s out).1.r ∧ (wr f n bb e m i en s out).1.r ≤ en.r + 24 * m ∧
      (en.tell ≤ 1 + shs n bb i → (wr f n bb e m i en s out).1.tell ≤ 1 + bb) ∧ 0 ≤ (wr f n bb e m i en s out).2.1 ∧ (wr f n bb e m i en s out).2.1 < 4294967296 ∧ (wr f n bb e m i en s out).2.2.length ≤ out.length + 16 * m
  | 0, i, en, s, out, hi, h, s0, s1 => by
    simp only [wr]
    obtain ⟨p0, _, _⟩ := pN_range h0 h1
    refine ⟨h, by omega, by omega, by omega, by omega, fun ht => ?_, s0, s1, by omega⟩
    rwa [show i = pN n by omega, shs_end p0] at ht
  | m + 1, i, en, s, out, hi, h, s0, s1 => by
    obtain ⟨mm, g1, g2, g3, g4, g5, g6, g7, g8, g9, g10, g11, g12, g13, g14⟩ := py_facts (bb := bb) hn h0 h1 (i := i) (by omega)
    have hst := shs_step n bb i
    have hsp : 0 ≤ spv n bb i := by
      obtain ⟨p0, _, _⟩ := pN_range h0 h1
      have := Int.ediv_nonneg b0 (show (0 : Int) ≤ pN n by omega)
      unfold spv
      split <;> omega
    simp only [wr]
    rw [g1, Int.toNat_natCast]
    by_cases c : pk n bb i = 0
    · rw [if_pos c]
      have hr := hsh_range (hv e) mm s s0 s1
      obtain ⟨a1, a2, a3, a4, a5, a6, a7, a8, a9⟩ := wr_facts (e := e) hn h0 h1 b0 m (i + 1) en (hsh (hv e) mm s).2 (out ++ (hsh (hv e) mm s).1) (by omega) h hr.1 hr.2
      rw [List.length_append, hsh_len] at a9
      exact ⟨a1, a2, by omega, a4, by omega, fun ht => a6 (by omega), a7, a8, by omega⟩
    · rw [if_neg c]
      have hok := E.un_ok h g12 g13 (by omega)
      have hco := E.un_cost h g12 g13 (by omega)
      have hte : bl (cnt mm (pk n bb i) - 1) ≤ spv n bb i := by
        have := kOf_tells (n := mm) (b := spv n bb i) (by omega)
        rw [← g9] at this
        exact this
      have hsm := un_same17 (e := en) (v := ix (py f n bb i) (pk n bb i)) (ft := cnt mm (pk n bb i))
      have hr : (en.un (ix (py f n bb i) (pk n bb i)) (cnt mm (pk n bb i))).r ≤ en.r + 24 := by
        rcases Int.lt_or_le 256 (cnt mm (pk n bb i)) with d | d
        · obtain ⟨b0, b1, _⟩ := ub_range (ft := cnt mm (pk n bb i)) d (by omega)
          have := hsm.2.2.2.2 d
          omega
        · have := (hsm.1 d).1
          omega
      obtain ⟨a1, a2, a3, a4, a5, a6, a7, a8, a9⟩ := wr_facts (e := e) hn h0 h1 b0 m (i + 1) (en.un (ix (py f n bb i) (pk n bb i)) (cnt mm (pk n bb i))) s (out ++ fillV (sz (cl e)) (py f n bb i)) (by omega) hok s0 s1
      rw [List.length_append, fillV_len] at a9
      exact ⟨a1, by omega, by omega, by omega, by omega, fun ht => a6 (by omega), a7, a8, by omega⟩
section
variable {N : Nat}
theorem pwrite_any {y : List Int} {e : E} (h : e.Ok) (hl : e.Low) (h1 : 1 ≤ y.length) (h2 : y.length ≤ 16) (h3 : (sz1 y : Int) ≤ mostT y.length) (hN : 30000 ≤ N) : Rc.pwrite.F N e.val e.rng e.r e.count y e.told e.bits =
    some (0, (e.un (ix y (sz1 y)) (cnt y.length (sz1 y))).val, (e.un (ix y (sz1 y)) (cnt y.length (sz1 y))).rng, ((e.un (ix y (sz1 y)) (cnt y.length (sz1 y))).r : Int), (e.un (ix y (sz1 y)) (cnt y.length (sz1 y))).count, (e.un (ix y (sz1 y)) (cnt y.length (sz1 y))).told, (e.un (ix y (sz1 y)) (cnt y.length (sz1 y))).bits) := by
  unfold Rc.pwrite.F
  simp only [br_bne]
  have hm := mostT_range y.length
  have hps := (sz1_small y (by omega)).1
  have hu := un_most (n := y.length) (k := sz1 y) h1 h2 h3
  obtain ⟨i0, i1, i2⟩ := ix_spec y (sz1 y) rfl hu
  have hA : cntA (y.length : Int) (sz1 y : Int) = cnt y.length (sz1 y) := by
    unfold cntA
    rw [if_pos (by omega), Int.toNat_natCast, Int.toNat_natCast]
  rw [pindex_F _ (by omega), obind_of, if_pos (show 1 ≤ y.length ∧ y.length ≤ 16 ∧ psumL y ≤ mostT y.length by omega)]
  simp only [if_true]
  have := hl.k
  rw [pcount_F _ _ (by omega), obind_of, euint_F h (hl.lim hN) (by omega), hps, hA, if_pos ⟨by omega, by omega, i0, i1⟩, obind_of]
theorem wr_loop {f : List Int} {n bb e : Int} (hn : (f.length : Int) = n) (h0 : 1 ≤ n) (h1 : n ≤ 1000) (b0 : 0 ≤ bb) (hN : 30000 ≤ N) : ∀ (nn m i : Nat) (en : E) (s : Int) (out : List Int), i + m = pN n → en.Ok → en.k ≤ 4 * i → en.r ≤ 24 * i → out.length ≤ 16 * i → 0 ≤ s → s < 4294967296 → m < nn →
    Rc.piecesW.loop2 N nn (pN n) e f (spl n bb) (pcs n) (st n i) i en.val en.rng en.r en.count s out en.told en.bits =
      some ((wr f n bb e m i en s out).1.val, (wr f n bb e m i en s out).1.rng, ((wr f n bb e m i en s out).1.r : Int), (wr f n bb e m i en s out).1.count, (wr f n bb e m i en s out).2.1, (wr f n bb e m i en s out).2.2, (wr f n bb e m i en s out).1.told, (wr f n bb e m i en s out).1.bits)
  | 0, _, _, _, _, _, _, _, _, _, _, _, _, h => by omega
  | nn + 1, 0, i, en, s, out, hi, h, hk, hr, ho, s0, s1, hh => by
    unfold Rc.piecesW.loop2
    simp only [br_dec, chkI_same, chkL_same, wr]
    rw [if_neg (by omega)]
  | nn + 1, m + 1, i, en, s, out, hi, h, hk, hr, ho, s0, s1, hh => by
    obtain ⟨p0, p1, _⟩ := pN_range h0 h1
    obtain ⟨mm, g1, g2, g3, g4, g5, g6, g7, g8, g9, g10, g11, g12, g13, g14⟩ := py_facts (bb := bb) hn h0 h1 (i := i) (by omega)
    have hP := pcs_get (n := n) (i := i) (by omega)
    have hS := spl_get (n := n) (bb := bb) (i := i) (by omega)
    rw [g1] at hP
    have a := st_range h0 h1 (i := i) (by omega)
    have b := st_range h0 h1 (i := i + 1) (by omega)
    have cst := st_step n i
    rw [g1] at cst
    unfold Rc.piecesW.loop2
    simp only [br_dec, chkI_same, chkL_same, pcs_len, spl_len, Int.toNat_natCast, hP, hS]
    rw [if_pos (by omega), chk_pos (by omega), chk_pos (by omega), apulses_F (by omega) (by omega) (by omega), obind_of, i64 (x := (i : Int) + 1) (by omega) (by omega), ← g9, i64 (x := st n i + mm) (by omega) (by omega), cst]
    simp only [wr]
    rw [g1, Int.toNat_natCast]
    unfold Rc.wclo.F
    simp only [br_dec, chkI_same, chkL_same]
    by_cases c : pk n bb i = 0
    · have hrs := hsh_range (hv e) mm s s0 s1
      have ih := wr_loop (e := e) hn h0 h1 b0 hN nn m (i + 1) en (hsh (hv e) mm s).2 (out ++ (hsh (hv e) mm s).1) (by omega) h (by omega) (by omega) (by rw [List.length_append, hsh_len]; omega) hrs.1 hrs.2 (by omega)
      rw [show ((i + 1 : Nat) : Int) = (i : Int) + 1 by omega] at ih
      rw [if_pos c, c, if_neg (by omega), filledN_F (by omega) (by omega) (by omega), obind_of, chk_pos (by simp only [hsh_len]; omega), obind_of]
      exact ih
    · have hok := E.un_ok h g12 g13 (by omega)
      have hsm := un_same17 (e := en) (v := ix (py f n bb i) (pk n bb i)) (ft := cnt mm (pk n bb i))
      have hr2 : (en.un (ix (py f n bb i) (pk n bb i)) (cnt mm (pk n bb i))).r ≤ en.r + 24 := by
        rcases Int.lt_or_le 256 (cnt mm (pk n bb i)) with d | d
        · obtain ⟨b0, b1, _⟩ := ub_range (ft := cnt mm (pk n bb i)) d (by omega)
          have := hsm.2.2.2.2 d
          omega
        · have := (hsm.1 d).1
          omega
      have ih := wr_loop (e := e) hn h0 h1 b0 hN nn m (i + 1) (en.un (ix (py f n bb i) (pk n bb i)) (cnt mm (pk n bb i))) s (out ++ fillV (sz (cl e)) (py f n bb i)) (by omega) hok (by omega) (by omega) (by rw [List.length_append, fillV_len]; omega) s0 s1 (by omega)
      rw [show ((i + 1 : Nat) : Int) = (i : Int) + 1 by omega] at ih
      have hpw := pwrite_any (N := N) (y := py f n bb i) h (e := en) ⟨by omega, by omega⟩ (by omega) (by omega) (by rw [g5, g6]; exact g7) hN
      rw [g5, g6] at hpw
      have hfo : FillOk (py f n bb i) (sz (cl e)) := by
        have := vec_fill (e := e) (n := mm) (k := pk n bb i) (by omega) (by omega) (by omega) g7 g12 g13
        rwa [g14] at this
      have hpc : List.take ((st n (i + 1)).toNat - (st n i).toNat) (List.drop (st n i).toNat f) = pc f n i := by
        unfold pc
        rw [g1, show (st n (i + 1)).toNat - (st n i).toNat = (mm : Int).toNat by omega]
      have hw : IntKind.i64.wrap (st n i + mm) = st n (i + 1) := by rw [i64 (by omega) (by omega), cst]
      rw [if_neg c, if_pos (by omega), hw, chk_pos (by omega), chk_pos (by omega), hpc, pnear_F _ _ (by omega), if_pos ⟨by omega, by omega, by omega, by rw [g4]; exact g7⟩, obind_of]
      simp only [show nearL (pc f n i) (pk n bb i : Int) = py f n bb i from rfl]
      rw [hpw, obind_of, filled_some hfo (by omega), obind_of, chk_pos (by simp only [fillV_len]; omega), obind_of]
      exact ih
end
end Go.Pl
/-
  Layer 20: a band that is written is read back.
  Conditions: none.
-/
namespace Go.Pl
open Go.Eng Go.Proofs
set_option maxRecDepth 100000
section
variable {N : Nat} {b : List Int}
theorem un_fit (hb : Bytes b) {en : E} (h : en.Ok) {v ft : Int} (v0 : 0 ≤ v) (v1 : v < ft) (f1 : ft ≤ 4294967295) (hf : (en.un v ft).Fit b) : en.Fit b := by
  by_cases c1 : ft ≤ 1
  · have eu : en.un v ft = en := by unfold E.un; rw [if_pos (by omega)]
    rwa [eu] at hf
  by_cases c2 : ft ≤ 256
  · exact (E.us_back hb h v0 v1 (by omega) c2 hf).1
  · exact (E.ug_back hb h v0 v1 (by omega) f1 hf (w := ⟨bsum b en.r (8 * ((en.r + 7) / 8) - en.r), 8 * ((en.r + 7) / 8) - en.r, (en.r + 7) / 8⟩) ⟨by simp only; omega, rfl⟩).1
theorem ruint_back (hb : Bytes b) (hl : b.length < 140737488351233) {en : E} (h : en.Ok) {v ft : Int} (v0 : 0 ≤ v) (v1 : v < ft) (f1 : ft ≤ 4294967295) (hf : (en.un v ft).Fit b) {w : W} (hw : w.Ok) (hat : w.At b en.r) {count : Int} (hc0 : 0 ≤ count) (hc1 : count < 1099511000000) (bad : Bool) (hN : 300 ≤ N) :
    en.Fit b ∧ ∃ w' : W, w'.Ok ∧ w'.At b (en.un v ft).r ∧ ∀ eq, ∃ eq', Rc.ruint.F N ft (en.rd b).rng (en.rd b).val (en.rd b).last (fr b (en.rd b).m) (fr b w.k) w.win (w.wai : Int) count eq bad b =
      some (v, ((en.un v ft).rd b).rng, ((en.un v ft).rd b).val, ((en.un v ft).rd b).last, fr b ((en.un v ft).rd b).m, fr b w'.k, w'.win, (w'.wai : Int), count + 8 * (((en.un v ft).k : Int) - (en.k : Int)) + (((en.un v ft).r : Int) - (en.r : Int)), eq', bad) := by
  by_cases c1 : ft ≤ 1
  · obtain rfl : v = 0 := by omega
    have eu : en.un 0 ft = en := by unfold E.un; rw [if_pos (by omega)]
    rw [eu] at hf ⊢
    refine ⟨hf, w, hw, hat, fun eq => ⟨eq, ?_⟩⟩
    rw [ruint_out (Or.inl c1), show count + 8 * ((en.k : Int) - (en.k : Int)) + ((en.r : Int) - (en.r : Int)) = count by omega]
  have hsm := un_same17 (e := en) (v := v) (ft := ft)
  by_cases c2 : ft ≤ 256
  · obtain ⟨g1, g2, g3, g4⟩ := E.us_back hb h v0 v1 (by omega) c2 hf
    have hq := E.rd_ok hb h g1.i
    refine ⟨g1, w, hw, by rw [g4]; exact hat, fun eq => ?_⟩
    obtain ⟨eq', hr⟩ := ruint_small (N := N) (back := fr b w.k) (wait := w.win) (waiting := (w.wai : Int)) (count := count) (eq := eq) (bad := bad) hb hl hq (ft := ft) (by omega) c2 (by omega) (by omega) hN
    refine ⟨eq', ?_⟩
    rw [hr, g2, ← g3]
    have hct : ct count (en.rd b) ((en.un v ft).rd b) = count + 8 * (((en.un v ft).k : Int) - (en.k : Int)) + (((en.un v ft).r : Int) - (en.r : Int)) := by
      have e1 : (en.rd b).m = en.k + 4 := rfl
      have e2 : ((en.un v ft).rd b).m = (en.un v ft).k + 4 := rfl
      unfold ct
      rw [e1, e2, g4]
      omega
    rw [hct]
  · obtain ⟨g1, g2, g3, g4, g5⟩ := E.ug_back hb h v0 v1 (by omega) f1 hf hat
    obtain ⟨b0, b1, _⟩ := ub_range (ft := ft) (by omega) f1
    have hq := E.rd_ok hb h g1.i
    refine ⟨g1, w.next b (ub ft), W.next_ok hb hw b1, g4, fun eq => ?_⟩
    obtain ⟨eq', hr⟩ := ruint_great (N := N) (count := count) (eq := eq) (bad := bad) hb hl hq hw (ft := ft) (by omega) f1 (by omega) (by omega) hN
    refine ⟨eq', ?_⟩
    rw [hr, g2, ← g3, if_neg (by omega)]
    have hct : ct count (en.rd b) ((en.un v ft).rd b) + (ub ft : Int) = count + 8 * (((en.un v ft).k : Int) - (en.k : Int)) + (((en.un v ft).r : Int) - (en.r : Int)) := by
      have e1 : (en.rd b).m = en.k + 4 := rfl
      have e2 : ((en.un v ft).rd b).m = (en.un v ft).k + 4 := rfl
      unfold ct
      rw [e1, e2, g5]
      omega
    rw [hct, decide_eq_false (by omega), Bool.or_false]
theorem wr_back {f : List Int} {n bb e : Int} (hb : Bytes b) (hl : b.length < 140737488351233) (hn : (f.length : Int) = n) (h0 : 1 ≤ n) (h1 : n ≤ 1000) (b0 : 0 ≤ bb) (hN : 3000 ≤ N) (bad : Bool) : ∀ (m i : Nat) (en : E) (s : Int) (out : List Int), i + m = pN n → en.Ok → 0 ≤ s → s < 4294967296 → out.length ≤ 16 * i → (wr f n bb e m i en s out).1.Fit b →
    en.Fit b ∧ ∀ (w : W) (c : Int), w.Ok → w.At b en.r → 0 ≤ c → (True → c + 64 * (m : Int) ≤ 1099510000000) → ∃ w' : W, ∀ nn, m < nn → ∀ eq, ∃ eq', Rc.rband.loop5 N nn e b (pcs n) (spl n bb) i (en.rd b).rng (en.rd b).val (en.rd b).last (fr b (en.rd b).m) (fr b w.k) w.win (w.wai : Int) c eq s bad out =
      some (((wr f n bb e m i en s out).1.rd b).rng, ((wr f n bb e m i en s out).1.rd b).val, ((wr f n bb e m i en s out).1.rd b).last, fr b ((wr f n bb e m i en s out).1.rd b).m, fr b w'.k, w'.win, (w'.wai : Int), c + 8 * (((wr f n bb e m i en s out).1.k : Int) - (en.k : Int)) + (((wr f n bb e m i en s out).1.r : Int) - (en.r : Int)), eq', (wr f n bb e m i en s out).2.1, bad, (wr f n bb e m i en s out).2.2)
  | 0, i, en, s, out, hi, h, s0, s1, ho, hf => by
    simp only [wr] at hf ⊢
    refine ⟨hf, fun w c hw hat c0 c1 => ⟨w, fun nn hnn eq => ⟨eq, ?_⟩⟩⟩
    obtain ⟨nn, rfl⟩ : ∃ k, nn = k + 1 := ⟨nn - 1, by omega⟩
    unfold Rc.rband.loop5
    simp only [br_dec, chkI_same, chkL_same, pcs_len]
    rw [if_neg (by omega), show c + 8 * ((en.k : Int) - (en.k : Int)) + ((en.r : Int) - (en.r : Int)) = c by omega]
  | m + 1, i, en, s, out, hi, h, s0, s1, ho, hf => by
    obtain ⟨p0, p1, _⟩ := pN_range h0 h1
    obtain ⟨mm, g1, g2, g3, g4, g5, g6, g7, g8, g9, g10, g11, g12, g13, g14⟩ := py_facts (bb := bb) hn h0 h1 (i := i) (by omega)
    have hP := pcs_get (n := n) (i := i) (by omega)
    have hS := spl_get (n := n) (bb := bb) (i := i) (by omega)
    rw [g1] at hP
    simp only [wr] at hf ⊢
    rw [g1, Int.toNat_natCast] at hf ⊢
    by_cases ck : pk n bb i = 0
    · rw [if_pos ck] at hf ⊢
      have hrs := hsh_range (hv e) mm s s0 s1
      obtain ⟨a1, a2⟩ := wr_back hb hl hn h0 h1 b0 hN bad m (i + 1) en (hsh (hv e) mm s).2 (out ++ (hsh (hv e) mm s).1) (by omega) h hrs.1 hrs.2 (by rw [List.length_append, hsh_len]; omega) hf
      refine ⟨a1, fun w c hw hat c0 c1 => ?_⟩
      have c1 := c1 trivial
      obtain ⟨w', a2⟩ := a2 w c hw hat c0 (fun _ => by omega)
      refine ⟨w', fun nn hnn eq => ?_⟩
      obtain ⟨nn, rfl⟩ : ∃ k, nn = k + 1 := ⟨nn - 1, by omega⟩
      obtain ⟨eq', a2⟩ := a2 nn (by omega) eq
      rw [show ((i + 1 : Nat) : Int) = (i : Int) + 1 by omega] at a2
      refine ⟨eq', ?_⟩
      unfold Rc.rband.loop5
      simp only [br_dec, br_beq, chkI_same, chkL_same, chkN_same, pcs_len, spl_len, Int.toNat_natCast, hP, hS]
      rw [if_pos (by omega), chk_pos (by omega), chk_pos (by omega), rpaid_F (by omega) (by omega) hN, obind_of, i64 (x := (i : Int) + 1) (by omega) (by omega), ← g9, ck, if_pos (show ((0 : Nat) : Int) = 0 from rfl), chk_pos (by omega), rsizeb_F (by omega), obind_of, rhush_F (by omega) _ _ s0 s1, obind_of, hn_nat (by omega) (by omega)]
      simp only
      rw [chk_pos (by simp only [hsh_len]; omega), chk_pos (by omega)]
      exact a2
    · rw [if_neg ck] at hf ⊢
      have hok := E.un_ok h g12 g13 (by omega)
      have hfo : FillOk (py f n bb i) (sz (cl e)) := by
        have := vec_fill (e := e) (n := mm) (k := pk n bb i) (by omega) (by omega) (by omega) g7 g12 g13
        rwa [g14] at this
      have hA : cntA (mm : Int) (pk n bb i : Int) = cnt mm (pk n bb i) := by
        unfold cntA
        rw [if_pos (by omega), Int.toNat_natCast, Int.toNat_natCast]
      have hvo : VOk (mm : Int) (pk n bb i : Int) (ix (py f n bb i) (pk n bb i)) := ⟨by omega, by omega, by omega, g7, g12, by rw [hA]; exact g13⟩
      obtain ⟨a1, a2⟩ := wr_back hb hl hn h0 h1 b0 hN bad m (i + 1) (en.un (ix (py f n bb i) (pk n bb i)) (cnt mm (pk n bb i))) s (out ++ fillV (sz (cl e)) (py f n bb i)) (by omega) hok s0 s1 (by rw [List.length_append, fillV_len]; omega) hf
      have hsm := un_same17 (e := en) (v := ix (py f n bb i) (pk n bb i)) (ft := cnt mm (pk n bb i))
      have hr2 : (en.un (ix (py f n bb i) (pk n bb i)) (cnt mm (pk n bb i))).r ≤ en.r + 24 := by
        rcases Int.lt_or_le 256 (cnt mm (pk n bb i)) with d | d
        · obtain ⟨b0, b1, _⟩ := ub_range (ft := cnt mm (pk n bb i)) d (by omega)
          have := hsm.2.2.2.2 d
          omega
        · have := (hsm.1 d).1
          omega
      have hfit : en.Fit b := un_fit hb h g12 g13 (by omega) a1
      refine ⟨hfit, fun w c hw hat c0 c1 => ?_⟩
      have c1 := c1 trivial
      obtain ⟨_, w1, hw1, hat1, hru⟩ := ruint_back (N := N) hb hl h g12 g13 (by omega) a1 hw hat c0 (by omega) bad (by omega)
      obtain ⟨w', a2⟩ := a2 w1 (c + 8 * (((en.un (ix (py f n bb i) (pk n bb i)) (cnt mm (pk n bb i))).k : Int) - (en.k : Int)) + (((en.un (ix (py f n bb i) (pk n bb i)) (cnt mm (pk n bb i))).r : Int) - (en.r : Int))) hw1 hat1 (by omega) (fun _ => by omega)
      refine ⟨w', fun nn hnn eq => ?_⟩
      obtain ⟨nn, rfl⟩ : ∃ k, nn = k + 1 := ⟨nn - 1, by omega⟩
      obtain ⟨eq1, hru⟩ := hru eq
      obtain ⟨eq', a2⟩ := a2 nn (by omega) eq1
      rw [show ((i + 1 : Nat) : Int) = (i : Int) + 1 by omega] at a2
      refine ⟨eq', ?_⟩
      unfold Rc.rband.loop5
      simp only [br_dec, br_beq, chkI_same, chkL_same, chkN_same, pcs_len, spl_len, Int.toNat_natCast, hP, hS]
      rw [if_pos (by omega), chk_pos (by omega), chk_pos (by omega), rpaid_F (by omega) (by omega) hN, obind_of, i64 (x := (i : Int) + 1) (by omega) (by omega), ← g9, if_neg (by omega), chk_pos (by omega), chk_pos (by omega), qcount_F _ _ hN, obind_of, hA, hru, obind_of]
      simp only
      rw [qvector_F hvo hN, obind_of, rsizeb_F (by omega), obind_of]
      simp only [Int.toNat_natCast, g14]
      rw [rfill_F (by omega) _ _ hfo, obind_of, chk_pos (by simp only [fillV_len]; omega), chk_pos (by omega), chk_pos (by omega), a2]
      refine congrArg some (Prod.ext rfl (Prod.ext rfl (Prod.ext rfl (Prod.ext rfl (Prod.ext rfl (Prod.ext rfl (Prod.ext rfl (Prod.ext ?_ rfl))))))))
      simp only
      omega
end
theorem swrite_ok {N : Nat} {f : List Int} {bits e seed : Int} (hN : 30000 ≤ N) (h0 : 1 ≤ f.length) (h1 : f.length ≤ 1000) (b0 : 0 ≤ bits) (b1 : bits ≤ 1048576) (s0 : 0 ≤ seed) (s1 : seed < 4294967296) :
    Rc.swrite.F N bits e E.new.val E.new.rng (E.new.r : Int) E.new.count seed f E.new.told E.new.bits =
      some (0, (wr f f.length bits e (pN f.length) 0 E.new seed []).1.val, (wr f f.length bits e (pN f.length) 0 E.new seed []).1.rng, ((wr f f.length bits e (pN f.length) 0 E.new seed []).1.r : Int), (wr f f.length bits e (pN f.length) 0 E.new seed []).1.count,
        (wr f f.length bits e (pN f.length) 0 E.new seed []).2.1, (wr f f.length bits e (pN f.length) 0 E.new seed []).2.2, (wr f f.length bits e (pN f.length) 0 E.new seed []).1.told, (wr f f.length bits e (pN f.length) 0 E.new seed []).1.bits) := by
  have hk : E.new.k = 0 := rfl
  have hr : E.new.r = 0 := rfl
  obtain ⟨p0, p1, _⟩ := pN_range (n := (f.length : Int)) (by omega) (by omega)
  have hst : st (f.length : Int) 0 = 0 := by unfold st; simp
  have hw := wr_loop (N := N) (f := f) (n := f.length) (bb := bits) (e := e) rfl (by omega) (by omega) b0 hN N (pN f.length) 0 E.new seed [] (by omega) E.new_ok (by omega) (by omega) (by simp) s0 s1 (by omega)
  rw [hst, show ((0 : Nat) : Int) = 0 from rfl] at hw
  unfold Rc.swrite.F Rc.piecesW.F
  simp only [br_dec, chkI_same, chkL_same]
  rw [if_neg (by omega), if_neg (by omega), if_neg (by omega), if_neg (by omega), asplit_F (by omega) (by omega) (by omega) (by omega) (by omega), obind_of, aPieces_F (by omega) (by omega) (by omega), obind_of, pcs_len, hw, obind_of, obind_of]
theorem shapeBack_pure (f : List Int) (bits e seed : Int) (s0 : 0 ≤ seed) (s1 : seed < 4294967296) (b0 : -9223372036854775808 ≤ bits) (b1 : bits < 9223372036854775808) : ∃ N, Rc.shapeBack.F N f bits e seed = some true := by
  refine ⟨30000, ?_⟩
  unfold Rc.shapeBack.F
  rw [awake20_F (by omega), obind_of]
  simp only [br_not, if_true, br_dec, br_beq, br_bne, List.nil_append, List.length_nil, Nat.zero_add]
  by_cases c1 : (f.length : Int) > 200
  · rw [if_pos c1]
  rw [if_neg c1, enew_F, obind_of, chk_pos (by omega)]
  simp only
  have ht1 : ∀ (raw told : List Int) (val rb : Int), Rc.etell.F 30000 val E.new.rng rb E.new.count told raw = some 1 := fun raw told val rb => by
    rw [etell_F E.new_ok (E.new_low.lim (by omega)), E.new_tell]
  by_cases d1 : (f.length : Int) < 1
  · unfold Rc.swrite.F
    simp only [br_dec]
    rw [if_pos d1, obind_of]
    simp only
    rw [if_pos d1, ht1]
    simp [obind_of]
  by_cases d2 : bits < 0
  · unfold Rc.swrite.F
    simp only [br_dec]
    rw [if_neg d1, if_neg (by omega), if_pos d2, obind_of]
    simp only
    rw [if_neg d1, if_pos d2, ht1]
    simp [obind_of]
  by_cases d3 : bits > 1048576
  · unfold Rc.swrite.F
    simp only [br_dec]
    rw [if_neg d1, if_neg (by omega), if_neg d2, if_pos d3, obind_of]
    simp only
    rw [if_neg d1, if_neg d2, if_pos d3, ht1]
    simp [obind_of]
  have hk : E.new.k = 0 := rfl
  have hr : E.new.r = 0 := rfl
  obtain ⟨p0, p1, _⟩ := pN_range (n := (f.length : Int)) (by omega) (by omega)
  obtain ⟨f1, f2, f3, f4, f5, f6, f7, f8, f9⟩ := wr_facts (f := f) (n := f.length) (bb := bits) (e := e) rfl (by omega) (by omega) (by omega) (pN f.length) 0 E.new seed [] (by omega) E.new_ok s0 s1
  have hbk := fun b hb hl => wr_back (N := 30000) (b := b) (f := f) (n := f.length) (bb := bits) (e := e) hb hl rfl (by omega) (by omega) (by omega) (by omega) false (pN f.length) 0 E.new seed [] (by omega) E.new_ok s0 s1 (by simp)
  rw [swrite_ok (by omega) (by omega) (by omega) (by omega) (by omega) s0 s1, obind_of]
  simp only
  generalize wr f f.length bits e (pN f.length) 0 E.new seed [] = R at *
  have htell : R.1.tell ≤ 1 + bits := f6 (by
    rw [E.new_tell]
    have h1 := Int.emod_nonneg bits (show (pN (f.length : Int) : Int) ≠ 0 by omega)
    unfold shs
    rw [show ((0 : Nat) : Int) = 0 from rfl, Int.zero_mul]
    omega)
  have low : R.1.Low := ⟨by omega, by omega⟩
  have hlim := low.lim (N := 30000) (by omega)
  rw [if_neg d1, if_neg d2, if_neg d3, etell_F f1 hlim, obind_of, i64 (x := bits + 3) (by omega) (by omega), i64 (x := bits + 3 + (f.length : Int)) (by omega) (by omega)]
  rw [if_neg (show ¬ (R.1.tell > bits + 3 + (f.length : Int)) by omega)]
  have hedone := edone_F (N := 30000) f1 hlim (by omega) 1275
  rw [if_neg (show ¬ ((1275 : Int) < 0 ∨ (1275 : Int) > 1275) by decide)] at hedone
  by_cases ct : R.1.tell > 8 * 1275
  · rw [if_pos ct] at hedone
    rw [hedone, obind_of]
    simp
  · rw [if_neg ct] at hedone
    have hfit := (E.out_fit f1 (n := 1275) (by omega)).2.2.2.2
    rw [hedone, obind_of]
    simp only [if_true]
    rw [show (1275 : Int).toNat = 1275 from rfl]
    have hbb := tb_bytes 1275 (R.1.out 1275)
    have hlen := tb_len 1275 (R.1.out 1275)
    generalize tb 1275 (R.1.out 1275) = b at hfit hbb hlen
    obtain ⟨_, hb2⟩ := hbk b hbb (by omega) hfit
    have hcn : cnew b = 1 + 8 * ((Q.new b).m : Int) := cnew_eq b
    have hqm : ((Q.new b).m : Int) = 4 := by rw [(Q.new_rng b).2]; rfl
    obtain ⟨w', hb2⟩ := hb2 W.new (cnew b) W.new_ok ⟨rfl, rfl⟩ (by omega) (fun _ => by omega)
    obtain ⟨eq', hb2⟩ := hb2 30000 (by omega) 0
    rw [E.new_rd hbb] at hb2
    have e0 : fr b W.new.k = 0 := rfl
    have e00 : W.new.win = 0 := rfl
    have e000 : (W.new.wai : Int) = 0 := rfl
    rw [e0, e00, e000, show ((0 : Nat) : Int) = 0 from rfl] at hb2
    have hB : Rc.rband.F 30000 f.length bits e (Q.new b).rng (Q.new b).val (Q.new b).last (fr b (Q.new b).m) 0 0 0 (cnew b) 0 seed false b = some ((R.1.rd b).rng, (R.1.rd b).val, (R.1.rd b).last, fr b (R.1.rd b).m, fr b w'.k, w'.win, (w'.wai : Int), cnew b + 8 * ((R.1.k : Int) - (E.new.k : Int)) + ((R.1.r : Int) - (E.new.r : Int)), eq', R.2.1, false, R.2.2) := by
      unfold Rc.rband.F
      simp only [chkL_same]
      rw [rpieces_F (by omega) (by omega) (by omega), obind_of, rsplit_F (by omega) (by omega) (by omega) (by omega) (by omega), obind_of, hb2, obind_of]
    rw [rnew_F hbb (by omega) (by omega), obind_of]
    simp only
    rw [hB, obind_of]
    simp only [if_true, if_false]
    have hrd := E.rd_ok hbb f1 hfit.i
    have hrm : (R.1.rd b).m = R.1.k + 4 := rfl
    simp only [List.length_nil] at f9
    rw [same20_F _ _ (by omega) (by omega), obind_of, decide_eq_true rfl, br_true, rtell_F hrd (by omega) (by omega) (by omega), obind_of, obind_of]
    have : (R.1.rd b).tell (cnew b + 8 * ((R.1.k : Int) - (E.new.k : Int)) + ((R.1.r : Int) - (E.new.r : Int))) = R.1.tell := by
      unfold Q.tell E.tell E.count
      have : (R.1.rd b).rng = R.1.rng := rfl
      rw [this, hcn, hqm, hk, hr]
      omega
    rw [this]
    simp
end Go.Pl
