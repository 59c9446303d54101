/-
  Layer 19, common parts: what is expected, the reading of energies by the program and by its plain twin.
  Conditions: none.
-/
import Derived.Test.YtgimkkepagcpkaaPlRen5
import Derived.Test.YtgimkkepagcpkaaPlKnown19
set_option linter.unusedSimpArgs false
set_option linter.unusedVariables false
namespace Go.Pl
open Go.Eng Go.Proofs

def cl (v : Int) : Int := if v < 0 then 0 else if v > 100 then 100 else v
theorem cl_range (v : Int) : 0 ≤ cl v ∧ cl v ≤ 100 := by
  unfold cl
  split
  · omega
  · split <;> omega
/-- What is expected. -/
def xp (b : Int) (intra : Bool) (was now : List Int) : Int :=
  if b < 0 ∨ b ≥ was.length ∨ b > now.length then 0
  else if intra = true then (if b = 0 then 30 else cl (cl (now.getD (b - 1).toNat 0) - 2))
  else cl ((3 * cl (was.getD b.toNat 0) + (if b > 0 then cl (now.getD (b - 1).toNat 0) else cl (was.getD 0 0))).tdiv 4)

theorem xp_range (b : Int) (intra : Bool) (was now : List Int) : 0 ≤ xp b intra was now ∧ xp b intra was now ≤ 100 := by
  unfold xp
  split
  · omega
  split
  · split
    · omega
    · exact cl_range _
  · exact cl_range _

theorem eclamp_F {N : Nat} (v : Int) : Rc.eclamp.F N v = some (cl v) := by
  unfold Rc.eclamp.F cl
  congr 1
  split <;> split <;> first | rfl | omega | (exfalso; omega) | (split <;> first | rfl | (exfalso; omega))
theorem hundred_F {N : Nat} (v : Int) : Rc.hundred.F N v = some (cl v) := by
  unfold Rc.hundred.F Rc.rclamp.F cl
  simp only [br_dec]
  by_cases c1 : v < 0
  · rw [if_pos c1, if_pos c1]; rfl
  rw [if_neg c1, if_neg c1, if_neg (by omega)]
  by_cases c2 : v > 100
  · rw [if_pos c2, if_pos c2]; rfl
  · rw [if_neg c2, if_neg c2]; rfl

theorem tdiv4 {a b : Int} (ha : 0 ≤ a ∧ a ≤ 100) (hb : 0 ≤ b ∧ b ≤ 100) : IntKind.i64.wrap ((IntKind.i64.wrap (IntKind.i64.wrap ((3 : Int) * a) + b)).tdiv 4) = (3 * a + b).tdiv 4 := by
  rw [i64 (x := 3 * a) (by omega) (by omega), i64 (x := 3 * a + b) (by omega) (by omega), i64]
  all_goals
    rw [tdiv_ediv (by omega)]
    omega

theorem eexpect_F {N : Nat} {b : Int} (hb : b < 9223372036854775808) (intra : Bool) (was now : List Int) : Rc.eexpect.F N b intra was now = some (xp b intra was now) := by
  unfold Rc.eexpect.F
  simp only [br_dec, br_beq, eclamp_F, obind_of]
  simp only [br_if]
  by_cases c1 : b < 0
  · rw [if_pos c1]; unfold xp; rw [if_pos (Or.inl c1)]
  by_cases c2 : b ≥ was.length
  · rw [if_neg c1, if_pos c2]; unfold xp; rw [if_pos (Or.inr (Or.inl c2))]
  by_cases c3 : b > now.length
  · rw [if_neg c1, if_neg c2, if_pos c3]; unfold xp; rw [if_pos (Or.inr (Or.inr c3))]
  rw [if_neg c1, if_neg c2, if_neg c3]
  have hx : ¬ (b < 0 ∨ b ≥ was.length ∨ b > now.length) := by omega
  rw [i64 (x := b - 1) (by omega) (by omega)]
  by_cases c4 : intra = true
  · rw [if_pos c4]
    by_cases c5 : b = 0
    · rw [if_pos c5]; unfold xp; rw [if_neg hx, if_pos c4, if_pos c5]
    rw [if_neg c5, if_pos c4, chk_pos (by omega), i64 (by have := cl_range (now.getD (b - 1).toNat 0); omega) (by have := cl_range (now.getD (b - 1).toNat 0); omega)]
    unfold xp; rw [if_neg hx, if_pos c4, if_neg c5]
  rw [if_neg c4, if_neg c4, chk_pos (by omega), tdiv4 (cl_range _) (cl_range _), tdiv4 (cl_range _) (cl_range _)]
  by_cases c5 : b > 0
  · rw [if_pos c5, chk_pos (by omega), chk_pos (by omega)]
    unfold xp; rw [if_neg hx, if_neg c4, if_pos c5]
  · rw [if_neg c5, chk_pos (by omega)]
    unfold xp; rw [if_neg hx, if_neg c4, if_neg c5]; rfl

theorem rexpect_F {N : Nat} {b : Int} (hb : b < 9223372036854775808) (intra : Bool) (was now : List Int) : Rc.rexpect.F N b intra was now = some (xp b intra was now) := by
  unfold Rc.rexpect.F
  simp only [br_dec, br_beq, hundred_F, obind_of]
  simp only [br_if]
  by_cases c1 : b < 0
  · rw [if_pos c1]; unfold xp; rw [if_pos (Or.inl c1)]
  by_cases c2 : b ≥ was.length
  · rw [if_neg c1, if_pos c2]; unfold xp; rw [if_pos (Or.inr (Or.inl c2))]
  by_cases c3 : b > now.length
  · rw [if_neg c1, if_neg c2, if_pos c3]; unfold xp; rw [if_pos (Or.inr (Or.inr c3))]
  rw [if_neg c1, if_neg c2, if_neg c3]
  have hx : ¬ (b < 0 ∨ b ≥ was.length ∨ b > now.length) := by omega
  rw [i64 (x := b - 1) (by omega) (by omega)]
  by_cases c4 : intra = true
  · rw [if_pos c4]
    by_cases c5 : b = 0
    · rw [if_pos c5]; unfold xp; rw [if_neg hx, if_pos c4, if_pos c5]
    rw [if_neg c5, chk_pos (by omega), i64 (by have := cl_range (now.getD (b - 1).toNat 0); omega) (by have := cl_range (now.getD (b - 1).toNat 0); omega)]
    unfold xp; rw [if_neg hx, if_pos c4, if_neg c5]
  rw [if_neg c4, chk_pos (by omega), tdiv4 (cl_range _) (cl_range _), tdiv4 (cl_range _) (cl_range _)]
  by_cases c5 : b > 0
  · rw [if_pos c5, chk_pos (by omega), chk_pos (by omega)]
    unfold xp; rw [if_neg hx, if_neg c4, if_pos c5]
  · rw [if_neg c5, chk_pos (by omega)]
    unfold xp; rw [if_neg hx, if_neg c4, if_neg c5]; rfl

/-! ### Reading -/
def lv (q : Q) : Int := (lapAt (q.ch 32768) 12000 8000).v
/-- n energies more. -/
def lrd (b : List Int) (was : List Int) (intra : Bool) : Nat → Q → Int → List Int → Q × Int × List Int
  | 0, q, c, o => (q, c, o)
  | n + 1, q, c, o => lrd b was intra n (q.la b 12000 8000) (ct c q (q.la b 12000 8000)) (o ++ [cl (xp o.length intra was o + lv q)])

theorem lrd_facts {b : List Int} (hb : Bytes b) (was : List Int) (intra : Bool) : ∀ (n : Nat) (q : Q) (c : Int) (o : List Int), q.Ok → (∀ x ∈ o, 0 ≤ x ∧ x ≤ 100) →
    (lrd b was intra n q c o).1.Ok ∧ c ≤ (lrd b was intra n q c o).2.1 ∧ (lrd b was intra n q c o).2.1 ≤ c + 32 * n ∧ (lrd b was intra n q c o).2.2.length = o.length + n ∧ ∀ x ∈ (lrd b was intra n q c o).2.2, 0 ≤ x ∧ x ≤ 100
  | 0, q, c, o, h, ho => ⟨h, by simp [lrd], by simp [lrd], by simp [lrd], ho⟩
  | n + 1, q, c, o, h, ho => by
    have hm := ct_range (b := b) (Q.la_m b q 12000 8000) c
    have := lrd_facts hb was intra n (q.la b 12000 8000) (ct c q (q.la b 12000 8000)) (o ++ [cl (xp o.length intra was o + lv q)]) (Q.la_ok hb h (by omega) (by omega) (by omega) (by omega)) (fun x hx => by
      rcases List.mem_append.1 hx with hx | hx
      · exact ho x hx
      · rw [List.mem_singleton.1 hx]; exact cl_range _)
    simp only [List.length_append, List.length_singleton] at this
    exact ⟨this.1, by simp only [lrd]; omega, by simp only [lrd]; omega, by simp only [lrd]; omega, this.2.2.2.2⟩

theorem xp_intra {b : Int} {was other now : List Int} (h : was.length = other.length) : xp b true was now = xp b true other now := by
  unfold xp; rw [h]; simp
theorem lrd_intra {b was other : List Int} (h : was.length = other.length) : ∀ (n : Nat) (q : Q) (c : Int) (o : List Int), lrd b was true n q c o = lrd b other true n q c o
  | 0, q, c, o => rfl
  | n + 1, q, c, o => by simp only [lrd]; rw [xp_intra h]; exact lrd_intra h n _ _ _

section
variable {N : Nat} {back window wait waiting eq : Int} {bad : Bool} {b : List Int}

theorem eread_loop (hb : Bytes b) (hl : b.length < 1099511627776) {was : List Int} (hw : was.length ≤ 40) {intra : Bool} (hN : 10000 ≤ N) : ∀ (nn d : Nat) (q : Q) (c : Int) (o : List Int), q.Ok → o.length + d = was.length → d < nn → 0 ≤ c → c + 32 * d < 1099511627776 →
    Rc.eread.loop5 N nn was.length back window waiting intra bad was b o.length q.rng q.val q.last (fr b q.m) c o =
      some ((lrd b was intra d q c o).1.rng, (lrd b was intra d q c o).1.val, (lrd b was intra d q c o).1.last, fr b (lrd b was intra d q c o).1.m, (lrd b was intra d q c o).2.1, (lrd b was intra d q c o).2.2)
  | 0, d, q, c, o, _, _, h0, _, _ => by omega
  | nn + 1, d, q, c, o, h, hd, h0, c0, c1 => by
    unfold Rc.eread.loop5
    simp only [br_dec, chkI_same, chkB_same, chkL_same]
    rcases d with _ | d
    · rw [if_neg (by omega)]; rfl
    · have hx := xp_range o.length intra was o
      obtain ⟨e0, e1⟩ := Q.ch_range h (ft := 32768) (by omega) (by omega)
      obtain ⟨_, _, _, _, _, v0, v1⟩ := lapAt_ok (f := q.ch 32768) (fs := 12000) (decay := 8000) (by omega) (by omega) (by omega) (by omega) e0 e1
      have hm := ct_range (b := b) (Q.la_m b q 12000 8000) c
      rw [if_pos (by omega), eexpect_F (by omega), obind_of, laplace_F hb hl h (by omega) (by omega) (by omega) (by omega) c0 (by omega) hN, obind_of]
      simp only
      rw [eclamp_F, obind_of, chk_pos (by simp only [List.length_singleton]; omega), i64 (x := xp o.length intra was o + (lapAt (q.ch 32768) 12000 8000).v) (by omega) (by omega), i64 (x := (o.length : Int) + 1) (by omega) (by omega)]
      have ih := eread_loop hb hl hw (intra := intra) hN nn d (q.la b 12000 8000) (ct c q (q.la b 12000 8000)) (o ++ [cl (xp o.length intra was o + lv q)]) (Q.la_ok hb h (by omega) (by omega) (by omega) (by omega)) (by simp only [List.length_append, List.length_singleton]; omega) (by omega) (by omega) (by omega)
      rw [show (((o ++ [cl (xp o.length intra was o + lv q)]).length : Nat) : Int) = (o.length : Int) + 1 by simp only [List.length_append, List.length_singleton]; omega] at ih
      exact ih

theorem eread_F (hb : Bytes b) (hl : b.length < 1099511627776) {q : Q} (h : q.Ok) (was : List Int) (intra : Bool) {c : Int} (c0 : 0 ≤ c) (c1 : c < 1099511600000) (hN : 10000 ≤ N) :
    Rc.eread.F N q.rng q.val q.last (fr b q.m) back window waiting c intra bad was b =
      some (if was.length < 1 ∨ was.length > 40 then (1, q.rng, q.val, q.last, fr b q.m, c, []) else
        (0, (lrd b was intra was.length q c []).1.rng, (lrd b was intra was.length q c []).1.val, (lrd b was intra was.length q c []).1.last, fr b (lrd b was intra was.length q c []).1.m, (lrd b was intra was.length q c []).2.1, (lrd b was intra was.length q c []).2.2)) := by
  unfold Rc.eread.F
  simp only [br_dec, chkI_same, chkB_same, chkL_same]
  by_cases c2 : was.length < 1
  · rw [if_pos (by omega), if_pos (Or.inl c2)]
  by_cases c3 : was.length > 40
  · rw [if_neg (by omega), if_pos (by omega), if_pos (Or.inr c3)]
  rw [if_neg (by omega), if_neg (by omega), if_neg (by omega)]
  have := eread_loop (back := back) (window := window) (waiting := waiting) (bad := bad) hb hl (was := was) (by omega) (intra := intra) hN N was.length q c [] h (by simp) (by omega) c0 (by omega)
  rw [show (([] : List Int).length : Int) = 0 from rfl] at this
  rw [this, obind_of]

theorem energies_loop (hb : Bytes b) (hl : b.length < 1099511627776) {was : List Int} (hw : was.length ≤ 40) {intra : Bool} (hN : 10000 ≤ N) : ∀ (nn d : Nat) (q : Q) (c : Int) (o : List Int) (eq : Int), q.Ok → o.length + d = was.length → d < nn → 0 ≤ c → c + 32 * d < 1099511627776 →
    ∃ eq', Rc.energies.loop3 N nn back wait waiting intra bad was b o.length q.rng q.val q.last (fr b q.m) c eq o =
      some ((lrd b was intra d q c o).1.rng, (lrd b was intra d q c o).1.val, (lrd b was intra d q c o).1.last, fr b (lrd b was intra d q c o).1.m, (lrd b was intra d q c o).2.1, eq', (lrd b was intra d q c o).2.2)
  | 0, d, q, c, o, eq, _, _, h0, _, _ => by omega
  | nn + 1, d, q, c, o, eq, h, hd, h0, c0, c1 => by
    unfold Rc.energies.loop3
    simp only [br_dec, chkI_same, chkB_same, chkL_same]
    rcases d with _ | d
    · rw [if_neg (by omega)]; exact ⟨eq, rfl⟩
    · have hx := xp_range o.length intra was o
      obtain ⟨e0, e1⟩ := Q.ch_range h (ft := 32768) (by omega) (by omega)
      obtain ⟨_, _, _, _, _, v0, v1⟩ := lapAt_ok (f := q.ch 32768) (fs := 12000) (decay := 8000) (by omega) (by omega) (by omega) (by omega) e0 e1
      have hm := ct_range (b := b) (Q.la_m b q 12000 8000) c
      obtain ⟨eq1, hr⟩ := rlaplace_F (N := N) (back := back) (wait := wait) (waiting := waiting) (eq := eq) (bad := bad) (count := c) hb hl h (fs := 12000) (decay := 8000) (by omega) (by omega) (by omega) (by omega) c0 (by omega) hN
      rw [if_pos (by omega), rexpect_F (by omega), obind_of, hr, obind_of]
      simp only
      rw [hundred_F, obind_of, chk_pos (by simp only [List.length_singleton]; omega), i64 (x := xp o.length intra was o + (lapAt (q.ch 32768) 12000 8000).v) (by omega) (by omega), i64 (x := (o.length : Int) + 1) (by omega) (by omega)]
      have ih := energies_loop hb hl hw (intra := intra) hN nn d (q.la b 12000 8000) (ct c q (q.la b 12000 8000)) (o ++ [cl (xp o.length intra was o + lv q)]) eq1 (Q.la_ok hb h (by omega) (by omega) (by omega) (by omega)) (by simp only [List.length_append, List.length_singleton]; omega) (by omega) (by omega) (by omega)
      rw [show (((o ++ [cl (xp o.length intra was o + lv q)]).length : Nat) : Int) = (o.length : Int) + 1 by simp only [List.length_append, List.length_singleton]; omega] at ih
      exact ih

theorem energies_F (hb : Bytes b) (hl : b.length < 1099511627776) {q : Q} (h : q.Ok) {was : List Int} (hw : was.length ≤ 40) (intra : Bool) {c : Int} (c0 : 0 ≤ c) (c1 : c < 1099511600000) (hN : 10000 ≤ N) :
    ∃ eq', Rc.energies.F N q.rng q.val q.last (fr b q.m) back wait waiting c eq intra bad was b =
      some ((lrd b was intra was.length q c []).1.rng, (lrd b was intra was.length q c []).1.val, (lrd b was intra was.length q c []).1.last, fr b (lrd b was intra was.length q c []).1.m, (lrd b was intra was.length q c []).2.1, eq', (lrd b was intra was.length q c []).2.2) := by
  unfold Rc.energies.F
  simp only [chkI_same, chkB_same, chkL_same]
  obtain ⟨eq', this⟩ := energies_loop (back := back) (wait := wait) (waiting := waiting) (bad := bad) hb hl (was := was) hw (intra := intra) hN N was.length q c [] eq h (by simp) (by omega) c0 (by omega)
  rw [show (([] : List Int).length : Int) = 0 from rfl] at this
  exact ⟨eq', by rw [this, obind_of]⟩

/-! ### Lists of numbers that are one -/
theorem ints19_loop {l e1 e2 : List Int} (hl : (l.length : Int) < 4611686018427387904) (s : Bool) : ∀ (nn k : Nat), k ≤ l.length → l.length - k < nn → ∃ r, Rc.ints19.loop4 N nn e1 e2 l l k s = some (.inl r)
  | 0, k, _, h => by omega
  | nn + 1, k, hk, h => by
    unfold Rc.ints19.loop4
    simp only [br_dec, br_bne, chkL_same]
    by_cases c : k < l.length
    · rw [if_pos (by omega), chk_pos (by omega), chk_pos (by omega), if_pos trivial, i64 (by omega) (by omega)]
      exact ints19_loop hl s nn (k + 1) (by omega) (by omega)
    · rw [if_neg (by omega)]; exact ⟨_, rfl⟩
theorem ints19_F (l : List Int) (hN : l.length < N) (hl : l.length < 4611686018427387904) : Rc.ints19.F N l l = some true := by
  unfold Rc.ints19.F
  rw [br_bne, if_pos rfl]
  obtain ⟨r, hr⟩ := ints19_loop (N := N) (l := l) (e1 := l) (e2 := l) (by omega) false N 0 (by omega) (by omega)
  rw [show ((0 : Nat) : Int) = 0 from rfl] at hr
  rw [hr, osum_inl]

/-! ### The two statements of reading -/
theorem energyReads_pure (x was : List Int) (intra : Bool) (hb : Bytes x) : ∃ N, Rc.energyReads.F N x was intra = some true := by
  refine ⟨30000, ?_⟩
  unfold Rc.energyReads.F
  rw [awake19_F (by omega), obind_of]
  simp only [br_not, if_true, br_dec, br_beq, List.nil_append, List.length_nil, Nat.zero_add]
  by_cases k1 : x.length > 500
  · rw [if_pos (by omega)]
  by_cases k2 : was.length > 100
  · rw [if_neg (by omega), if_pos (by omega)]
  have hc := cnew_range x
  have hq := Q.new_ok hb
  rw [if_neg (by omega), if_neg (by omega), new_F hb (by omega) (by omega), obind_of]
  simp only
  rw [chk_pos (by omega), eread_F hb (by omega) hq was intra (by omega) (by omega) (by omega), obind_of]
  have ht1 : (Q.new x).tell (cnew x) = 1 := by
    have e32 : bl 2147483648 = 32 := by decide +kernel
    unfold Q.tell
    rw [cnew_eq, (Q.new_rng x).1, (Q.new_rng x).2, e32]
    rfl
  by_cases k3 : was.length < 1
  · rw [if_pos (Or.inl k3), if_pos (by omega)]
    simp only [List.length_nil, if_true]
    rw [if_pos (by rfl), tell_F hq (by omega) (by omega), obind_of, ht1]; rfl
  by_cases k4 : was.length > 40
  · rw [if_pos (Or.inr k4), if_neg (by omega), if_pos (by omega)]
    simp only [List.length_nil, if_true]
    rw [if_pos (by rfl), tell_F hq (by omega) (by omega), obind_of, ht1]; rfl
  rw [if_neg (by omega), if_neg (by omega), if_neg (by omega), rnew_F hb (by omega) (by omega), obind_of]
  simp only [if_true]
  obtain ⟨eq', he⟩ := energies_F (N := 30000) (back := 0) (wait := 0) (waiting := 0) (eq := 0) (bad := false) hb (by omega) hq (was := was) (by omega) intra (c := cnew x) (by omega) (by omega) (by omega)
  obtain ⟨f1, f2, f3, f4, f5⟩ := lrd_facts hb was intra was.length (Q.new x) (cnew x) [] hq (by simp)
  rw [he, obind_of]
  simp only
  rw [ints19_F _ (by rw [f4]; simp; omega) (by rw [f4]; simp; omega), obind_of, br_true, tell_F f1 (by omega) (by omega), obind_of, rtell_F f1 (by omega) (by omega) (by omega), obind_of]
  simp

theorem getD_mem {l : List Int} {i : Nat} (h : i < l.length) : l.getD i 0 ∈ l := by
  rw [List.getD_eq_getElem?_getD, List.getElem?_eq_getElem h]; exact List.getElem_mem h

theorem bounds_loop {b0 w0 o0 : List Int} {was A B : List Int} (hA : ∀ x ∈ A, 0 ≤ x ∧ x ≤ 100) (hB : ∀ x ∈ B, 0 ≤ x ∧ x ≤ 100) (hAB : A.length = B.length) (hl : A.length ≤ 40) (s : Bool) : ∀ (nn k : Nat), k ≤ A.length → A.length - k < nn → ∃ r, Rc.energyBounds.loop11 N b0 w0 o0 nn was A B k s = some (.inl r)
  | 0, k, _, h => by omega
  | nn + 1, k, hk, h => by
    unfold Rc.energyBounds.loop11
    simp only [br_dec, chkL_same]
    by_cases c : k < A.length
    · have h1 := hA _ (getD_mem (i := k) c)
      have h2 := hB _ (getD_mem (i := k) (by omega))
      have h3 := xp_range k false was (B.take k)
      rw [if_pos (by omega), chk_pos (by omega), Int.toNat_natCast, List.drop_zero, Nat.sub_zero, eexpect_F (by omega), obind_of, chk_pos (by omega), if_neg (by omega), chk_pos (by omega), if_neg (by omega), chk_pos (by omega), if_neg (by omega), chk_pos (by omega), if_neg (by omega), if_neg (nlt h3.1), if_neg (nlt h3.2), i64 (by omega) (by omega)]
      exact bounds_loop hA hB hAB hl s nn (k + 1) (by omega) (by omega)
    · rw [if_neg (by omega)]; exact ⟨_, rfl⟩

theorem energyBounds_pure (b was other : List Int) (hb : Bytes b) : ∃ N, Rc.energyBounds.F N b was other = some true := by
  refine ⟨30000, ?_⟩
  unfold Rc.energyBounds.F
  rw [awake19_F (by omega), obind_of]
  simp only [br_not, if_true, br_dec, br_bne]
  by_cases k1 : was.length < 1
  · rw [if_pos (by omega)]
  by_cases k2 : was.length > 40
  · rw [if_neg (by omega), if_pos (by omega)]
  by_cases k3 : other.length ≠ was.length
  · rw [if_neg (by omega), if_neg (by omega), if_neg (by omega)]
  have k3 : other.length = was.length := by omega
  by_cases k4 : b.length > 300
  · rw [if_neg (by omega), if_neg (by omega), if_pos (by omega), if_pos (by omega)]
  have hc := cnew_range b
  have hq := Q.new_ok hb
  rw [if_neg (by omega), if_neg (by omega), if_pos (by omega), if_neg (by omega), new_F hb (by omega) (by omega), obind_of]
  simp only
  rw [eread_F hb (by omega) hq was true (by omega) (by omega) (by omega), obind_of, obind_of]
  simp only
  rw [eread_F hb (by omega) hq other true (by omega) (by omega) (by omega), obind_of, obind_of]
  simp only
  rw [eread_F hb (by omega) hq was false (by omega) (by omega) (by omega), obind_of]
  have n1 : ¬ (was.length < 1 ∨ was.length > 40) := by omega
  have n2 : ¬ (other.length < 1 ∨ other.length > 40) := by omega
  simp only [if_neg n1, if_neg n2, if_true]
  obtain ⟨f1, f2, f3, f4, f5⟩ := lrd_facts hb was true was.length (Q.new b) (cnew b) [] hq (by simp)
  obtain ⟨g1, g2, g3, g4, g5⟩ := lrd_facts hb was false was.length (Q.new b) (cnew b) [] hq (by simp)
  rw [k3, lrd_intra (was := other) (other := was) k3, ints19_F _ (by rw [f4]; simp; omega) (by rw [f4]; simp; omega), obind_of]
  simp only [if_true]
  rw [if_pos (by rw [g4]; simp)]
  obtain ⟨r, hr⟩ := bounds_loop (N := 30000) (b0 := b) (w0 := was) (o0 := other) (was := was) f5 g5 (by rw [f4, g4]) (by rw [f4]; simp; omega) false 30000 0 (by omega) (by rw [f4]; simp; omega)
  rw [show ((0 : Nat) : Int) = 0 from rfl] at hr
  rw [hr, osum_inl]
end
end Go.Pl
