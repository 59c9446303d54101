/-
  Layer 9: how pulses lie in a block, read by both.
  Conditions: none.
-/
import Derived.Test.YtghbobmkkbdhpaaGreatPlBaseToPlRen5
import Derived.Test.YtghbobmkkbdhpaaGreatPlKnown9
import Derived.Test.YtghbobmkkbdhpaaGreatPlGaToPlGa2
import Derived.Test.YtghbobmkkbdhpaaGreatSpLaws
set_option linter.unusedVariables false
set_option linter.unusedSimpArgs false
namespace Go.Pl
open Go.Eng Go.Proofs
theorem g5 : GoodT (icdfT 5) := icdf_good (by omega) (by omega)
def tot : List Int → Int
  | [] => 0
  | x :: r => x + tot r
def rdv (b : List Int) (q : Q) (ft : Int) : Int × Q := if ft ≤ 1 then (0, q) else (q.ch ft, q.un b ft)
section
variable {N : Nat} {b : List Int}
end
def shq (b : List Int) : Nat → Int → Q → Q × List Int
  | 0, k, q => (q, [k])
  | d + 1, k, q =>
    ((shq b d (k - (rdv b q (k + 1)).1) (shq b d (rdv b q (k + 1)).1 (rdv b q (k + 1)).2).1).1,
      (shq b d (rdv b q (k + 1)).1 (rdv b q (k + 1)).2).2 ++ (shq b d (k - (rdv b q (k + 1)).1) (shq b d (rdv b q (k + 1)).1 (rdv b q (k + 1)).2).1).2)
section
variable {N : Nat} {b : List Int} {back window waiting C : Int} {bad : Bool}
end
end Go.Pl
/-
  Layer 9: signs and blocks, read by both.
  Conditions: none.
-/
namespace Go.Pl
open Go.Eng Go.Proofs
def sgn (b : List Int) : List Int → W → List Int × W × Int
  | [], w => ([], w, 0)
  | v :: r, w => if v > 0 then ((if w.val b 1 = 1 then 0 - v else v) :: (sgn b r (w.next b 1)).1, (sgn b r (w.next b 1)).2.1, 1 + (sgn b r (w.next b 1)).2.2) else (v :: (sgn b r w).1, (sgn b r w).2.1, (sgn b r w).2.2)
section
variable {N : Nat} {b : List Int} {bad : Bool}
end
def bsh (b : List Int) (q : Q) : Q × List Int := shq b 4 (q.sk (icdfT 5) : Int) (q.sy b (icdfT 5))
def blks (b : List Int) : Nat → Q → W → Int → List Int → Q × W × Int × List Int
  | 0, q, w, C, o => (q, w, C, o)
  | n + 1, q, w, C, o => blks b n (bsh b q).1 (sgn b (bsh b q).2 w).2.1 (C + (sgn b (bsh b q).2 w).2.2) (o ++ (sgn b (bsh b q).2 w).1)
section
variable {N : Nat} {b : List Int} {bad : Bool}
end
end Go.Pl
/-
  Layer 9: pulses that may be; pulses are read by both in one way.
  Conditions: none.
-/
namespace Go.Pl
open Go.Eng Go.Proofs
def ab (v : Int) : Int := if v < 0 then -v else v
def c32 (v : Int) : Int := if v < -32 then -32 else if v > 32 then 32 else v
def cnt (l : List Int) : Int := tot (l.map fun v => ab (c32 v))
theorem c32_ab (v : Int) : 0 ≤ ab (c32 v) ∧ ab (c32 v) ≤ 32 := by
  unfold ab c32
  split <;> split <;> (try split) <;> omega
section
variable {N : Nat}
theorem abs9_F {v : Int} (h0 : -100 ≤ v) (h1 : v ≤ 100) : Rc.abs9.F N v = some (ab v) := by
  unfold Rc.abs9.F ab
  rw [i64 (x := 0 - v) (by omega) (by omega)]
  by_cases c : v < 0
  · rw [if_pos c, if_pos (show 0 - v > v by omega), Int.zero_sub]
  · rw [if_neg c]
    by_cases d : 0 - v > v
    · omega
    · rw [if_neg d]
theorem clamp32 (v : Int) : Rc.clamp.F N v (-32) 32 = some (c32 v) := by
  unfold Rc.clamp.F c32
  simp only [br_dec]
  rw [if_neg (by omega)]
  by_cases c1 : v < -32
  · rw [if_pos c1, if_pos c1]
  rw [if_neg c1, if_neg c1]
  by_cases c2 : v > 32
  · rw [if_pos c2, if_pos c2]
  · rw [if_neg c2, if_neg c2]
theorem drop_cons {l : List Int} {k : Nat} (h : k < l.length) : l.drop k = l.getD k 0 :: l.drop (k + 1) := by
  rw [List.drop_eq_getElem_cons h, List.getD_eq_getElem?_getD, List.getElem?_eq_getElem h]
  rfl
theorem cnt_drop {l : List Int} {k : Nat} (h : k < l.length) : cnt (l.drop k) = ab (c32 (l.getD k 0)) + cnt (l.drop (k + 1)) := by
  rw [drop_cons h]
  rfl
theorem count_loop {l : List Int} (hl : l.length ≤ 1000000) : ∀ (nn k : Nat) (s : Int), k ≤ l.length → l.length - k < nn → 0 ≤ s → (True → s ≤ 32 * k) → Rc.count9.loop3 N nn l.length l s k = some (s + cnt (l.drop k))
  | 0, k, s, _, h, _, _ => by omega
  | nn + 1, k, s, hk, h, s0, s1 => by
    have s1 := s1 trivial
    unfold Rc.count9.loop3
    simp only [br_dec, chkI_same, chkL_same]
    by_cases c : k < l.length
    · have hr := c32_ab (l.getD k 0)
      have hb : -100 ≤ c32 (l.getD k 0) ∧ c32 (l.getD k 0) ≤ 100 := by unfold c32; split <;> (try split) <;> omega
      rw [if_pos (by omega), chk_pos (by omega), Int.toNat_natCast, clamp32, obind_of, abs9_F hb.1 hb.2, obind_of, i64 (by omega) (by omega), i64 (by omega) (by omega)]
      have ih := count_loop hl nn (k + 1) (s + ab (c32 (l.getD k 0))) (by omega) (by omega) (by omega) (fun _ => by omega)
      rw [show ((k + 1 : Nat) : Int) = (k : Int) + 1 by omega] at ih
      rw [ih, cnt_drop c]
      congr 1
      omega
    · rw [if_neg (by omega), List.drop_eq_nil_of_le (by omega)]
      simp [cnt, tot]
theorem count9_F {l : List Int} (hl : l.length ≤ 1000000) (hN : l.length < N) : Rc.count9.F N l = some (cnt l) := by
  unfold Rc.count9.F
  have := count_loop (N := N) hl N 0 0 (by omega) (by omega) (by omega) (fun _ => by omega)
  rw [show ((0 : Nat) : Int) = 0 from rfl] at this
  rw [this, obind_of, List.drop_zero, Int.zero_add]
end
def okB : Nat → List Int → Bool
  | 0, _ => true
  | m + 1, l => decide (cnt (l.take 16) ≤ 16) && okB m (l.drop 16)
def mayB (n : Nat) : Bool := decide (16 ≤ n) && (decide (n ≤ 480) && decide (n % 16 = 0))
def goodB (l : List Int) : Bool := mayB l.length && okB (l.length / 16) l
section
variable {N : Nat}
theorem pmay_F (n : Int) : Rc.pmay9.F N n = some (decide (16 ≤ n) && (decide (n ≤ 480) && decide (n % 16 = 0))) := by
  unfold Rc.pmay9.F
  simp only [br_dec]
  by_cases c1 : n ≥ 16
  · rw [if_pos c1]
    by_cases c2 : n ≤ 480
    · rw [if_pos c2, Int.tmod_eq_emod_of_nonneg (by omega)]
      simp only [show decide (16 ≤ n) = true by simpa using c1, show decide (n ≤ 480) = true by simpa using c2, Bool.true_and]
      rfl
    · rw [if_neg c2]
      simp [c2]
  · rw [if_neg c1]
    simp only [show decide (16 ≤ n) = false by simpa using c1, Bool.false_and]
theorem pmay_nat (n : Nat) : Rc.pmay9.F N (n : Int) = some (mayB n) := by
  rw [pmay_F]
  unfold mayB
  congr 1
  have e1 : (16 ≤ (n : Int)) ↔ 16 ≤ n := by omega
  have e2 : ((n : Int) ≤ 480) ↔ n ≤ 480 := by omega
  have e3 : ((n : Int) % 16 = 0) ↔ n % 16 = 0 := by omega
  simp only [e1, e2, e3]
theorem good9_loop {l e : List Int} (hl : l.length ≤ 480) (hN : 30000 ≤ N) (s : Bool) : ∀ (nn m k : Nat), k + 16 * m = l.length → m < nn →
    (okB m (l.drop k) = true → Rc.good9.loop4 N nn e l k s = some (.inl s)) ∧ (okB m (l.drop k) = false → Rc.good9.loop4 N nn e l k s = some (.inr false))
  | 0, m, k, _, h => by omega
  | nn + 1, 0, k, hk, h => by
    unfold Rc.good9.loop4
    simp only [br_dec]
    rw [if_neg (by omega)]
    exact ⟨fun _ => rfl, fun h => by simp [okB] at h⟩
  | nn + 1, m + 1, k, hk, h => by
    unfold Rc.good9.loop4
    simp only [br_dec, chkL_same]
    rw [if_pos (by omega), i64 (x := (k : Int) + 16) (by omega) (by omega), chk_pos (by omega), chk_pos (by omega), show ((k : Int) + 16).toNat = k + 16 by omega, Int.toNat_natCast, show k + 16 - k = 16 by omega, count9_F (by rw [List.length_take, List.length_drop]; omega) (by rw [List.length_take, List.length_drop]; omega), obind_of]
    have ih := good9_loop (e := e) hl hN s nn m (k + 16) (by omega) (by omega)
    rw [show ((k + 16 : Nat) : Int) = (k : Int) + 16 by omega] at ih
    have hok : okB (m + 1) (l.drop k) = (decide (cnt ((l.drop k).take 16) ≤ 16) && okB m (l.drop (k + 16))) := by simp only [okB, List.drop_drop]
    rw [hok]
    by_cases c : cnt ((l.drop k).take 16) ≤ 16
    · rw [if_neg (show ¬ cnt ((l.drop k).take 16) > 16 by omega), decide_eq_true c]
      simpa using ih
    · rw [if_pos (show cnt ((l.drop k).take 16) > 16 by omega), decide_eq_false c]
      exact ⟨fun h => by simp at h, fun _ => rfl⟩
theorem good9_F (l : List Int) (hN : 30000 ≤ N) : Rc.good9.F N l = some (goodB l) := by
  unfold Rc.good9.F goodB
  rw [pmay_nat, obind_of, br_not]
  cases hm : mayB l.length with
  | false => rfl
  | true =>
    simp only [mayB, Bool.and_eq_true, decide_eq_true_eq] at hm
    have h := good9_loop (N := N) (l := l) (e := l) (by omega) hN false N (l.length / 16) 0 (by omega) (by omega)
    rw [show ((0 : Nat) : Int) = 0 from rfl, List.drop_zero] at h
    rw [if_pos rfl, Bool.true_and]
    cases ho : okB (l.length / 16) l with
    | true => rw [h.1 ho]; rfl
    | false => rw [h.2 ho]; rfl
end
end Go.Pl
/-
  Layer 14: a frame is read, in the book's words and the reference's.
  Conditions: none.
-/
namespace Go.Pl
open Go.Eng Go.Proofs
theorem g0 : GoodT (icdfT 0) := icdf_good (by omega) (by omega)
theorem g3 : GoodT (icdfT 3) := icdf_good (by omega) (by omega)
theorem g4 : GoodT (icdfT 4) := icdf_good (by omega) (by omega)
def ord14 (rate : Int) : Nat := if rate = 8000 then 10 else if rate = 16000 then 16 else 0
theorem ord14_le (rate : Int) : ord14 rate ≤ 16 := by unfold ord14; split <;> (try split) <;> omega
theorem torder_F {N : Nat} (rate : Int) : Rc.torder.F N rate = some (ord14 rate : Int) := by
  unfold Rc.torder.F ord14
  simp only [br_beq]
  split
  · rfl
  · split <;> rfl
theorem spmay_F {N : Nat} (rate ms : Int) : Rc.spmay.F N rate ms = some (decide ((rate = 8000 ∨ rate = 16000) ∧ (ms = 10 ∨ ms = 20))) := by
  unfold Rc.spmay.F
  rw [torder_F, obind_of]
  unfold ord14
  simp only [br_dec, br_beq]
  by_cases h1 : rate = 8000
  · by_cases h2 : ms = 10
    · simp [h1, h2]
    · by_cases h3 : ms = 20
      · simp [h1, h3]
      · simp [h1, h2, h3]
  · by_cases h4 : rate = 16000
    · by_cases h2 : ms = 10
      · simp [h4, h2]
      · by_cases h3 : ms = 20
        · simp [h4, h3]
        · simp [h4, h2, h3]
    · simp [h1, h4]
structure RS where
  q : Q
  w : W
  C : Int
  bad : Bool
structure RS.Ok (s : RS) (k : Nat) : Prop where
  q : s.q.Ok
  w : s.w.Ok
  c0 : 0 ≤ s.C
  c1 : s.C ≤ 32 * (k : Int)
  m : s.q.m ≤ 4 * k
theorem RS.Ok.mono {s : RS} {k k' : Nat} (h : s.Ok k) (hk : k ≤ k') : s.Ok k' := ⟨h.q, h.w, h.c0, by have := h.c1; omega, by have := h.m; omega⟩
def RS.bit (b : List Int) (s : RS) : RS := ⟨s.q, s.w.next b 1, s.C + 1, s.bad⟩
def RS.sy (b : List Int) (s : RS) (t : List Int) : RS := ⟨s.q.sy b t, s.w, s.C, s.bad⟩
def RS.uv (b : List Int) (s : RS) (ft : Int) : Int := if ft ≤ 256 then s.q.ch ft else if Pl.uv b s.q s.w ft ≥ ft then ft - 1 else Pl.uv b s.q s.w ft
def RS.un (b : List Int) (s : RS) (ft : Int) : RS := if ft ≤ 256 then ⟨s.q.un b ft, s.w, s.C, s.bad⟩ else ⟨s.q.un b ft, s.w.next b (ub ft), s.C + (ub ft : Int), s.bad || decide (Pl.uv b s.q s.w ft ≥ ft)⟩
section
variable {N : Nat} {b : List Int}
end
end Go.Pl
/-
  Layer 14: what repeats, pulses; a frame is read as a whole.
  Conditions: none.
-/
namespace Go.Pl
open Go.Eng Go.Proofs
theorem obind_step {X Y : Type} {x : Option X} {v : X} {k : X → Option Y} {r : Option Y} (h : x = some v) (h2 : k v = r) : obind x k = r := by rw [h]; exact h2
section
variable {N : Nat} {b : List Int}
def RS.pu (b : List Int) (m : Nat) (s : RS) : RS := ⟨(blks b m s.q s.w s.C []).1, (blks b m s.q s.w s.C []).2.1, (blks b m s.q s.w s.C []).2.2.1, s.bad⟩
def cnt14 (ms : Int) : Nat := (ms / 5).toNat
def blk14 (rate ms : Int) : Nat := (rate * ms / 16000).toNat
structure FR where
  fresh : Bool
  kind : Int
  one : Int
  two : List Int
  btw : Int
  gains : List Int
  ltps : List (List Int)
  pulses : List Int
  s : RS
def May14 (rate ms : Int) : Prop := (rate = 8000 ∨ rate = 16000) ∧ (ms = 10 ∨ ms = 20)
instance (rate ms : Int) : Decidable (May14 rate ms) := by unfold May14; infer_instance
theorem may_facts {rate ms : Int} (h : May14 rate ms) : 1 ≤ ord14 rate ∧ ms.tdiv 5 = (cnt14 ms : Int) ∧ 2 ≤ cnt14 ms ∧ cnt14 ms ≤ 4 ∧ (rate * ms).tdiv 1000 = 16 * (blk14 rate ms : Int) ∧ 1 ≤ blk14 rate ms ∧ blk14 rate ms ≤ 30 ∧ IntKind.i64.wrap (rate * ms) = rate * ms := by
  obtain ⟨rfl | rfl, rfl | rfl⟩ := h <;> decide
end
end Go.Pl
/-
  Layer 14: the reference's reading; frames compared; what a frame may be.
  Conditions: none.
-/
namespace Go.Pl
open Go.Eng Go.Proofs
theorem chkR_same {Y : Type} (x : List (List Int)) (k : Option Y) : chkR x x k = k := by simp [chkR]
theorem same14_loop {N : Nat} {a b e1 e2 : List Int} (hab : a.length = b.length) (hl : a.length ≤ 1000000) (s : Bool) : ∀ (nn k : Nat), k ≤ a.length → a.length - k < nn →
    (a.drop k = b.drop k → Rc.same14.loop4 N nn e1 e2 a b k s = some (.inl s)) ∧ (a.drop k ≠ b.drop k → Rc.same14.loop4 N nn e1 e2 a b k s = some (.inr false))
  | 0, k, _, h => by omega
  | nn + 1, k, hk, h => by
    unfold Rc.same14.loop4
    simp only [br_dec, br_bne, chkL_same]
    by_cases c : k < a.length
    · have ih := same14_loop (N := N) (e1 := e1) (e2 := e2) hab hl s nn (k + 1) (by omega) (by omega)
      rw [show ((k + 1 : Nat) : Int) = (k : Int) + 1 by omega] at ih
      rw [if_pos (by omega), chk_pos (by omega), chk_pos (by omega), Int.toNat_natCast, i64 (by omega) (by omega), drop_cons c, drop_cons (show k < b.length by omega)]
      by_cases d : a.getD k 0 = b.getD k 0
      · rw [if_pos d, d]
        refine ⟨fun he => ih.1 (List.cons.inj he).2, fun he => ih.2 fun h2 => he (by rw [h2])⟩
      · rw [if_neg d]
        exact ⟨fun he => absurd (List.cons.inj he).1 d, fun _ => rfl⟩
    · rw [if_neg (by omega)]
      exact ⟨fun _ => rfl, fun he => absurd (by rw [List.drop_eq_nil_of_le (by omega), List.drop_eq_nil_of_le (by omega)]) he⟩
theorem same14_F {N : Nat} (a b : List Int) (hl : a.length ≤ 1000000) (hN : a.length < N) : Rc.same14.F N a b = some (decide (a = b)) := by
  unfold Rc.same14.F
  rw [br_bne]
  by_cases c : a.length = b.length
  · rw [if_pos (by omega)]
    have h := same14_loop (N := N) (e1 := a) (e2 := b) c hl false N 0 (by omega) (by omega)
    rw [show ((0 : Nat) : Int) = 0 from rfl, List.drop_zero, List.drop_zero] at h
    by_cases d : a = b
    · rw [h.1 d, osum_inl, decide_eq_true d]
    · rw [h.2 d, decide_eq_false d]; rfl
  · rw [if_neg (by omega), decide_eq_false (fun h => c (by rw [h]))]
theorem lgood_loop {N : Nat} {e0 : Int} {e1 : Int} {e2 : List Int} {l : List Int} (hl : l.length ≤ 1000000) (s : Bool) : ∀ (nn k : Nat), k ≤ l.length → l.length - k < nn →
    Rc.lgood.loop4 N nn e0 e1 e2 (l.length : Int) l (k : Int) s = if ∀ x ∈ l.drop k, (-4 : Int) ≤ x ∧ x ≤ 4 then some (.inl s) else some (.inr false)
  | 0, k, _, h => by omega
  | nn + 1, k, hk, h => by
    unfold Rc.lgood.loop4
    simp only [br_dec, chkL_same, chkI_same]
    by_cases c : k < l.length
    · have ih := lgood_loop (N := N) (e0 := e0) (e1 := e1) (e2 := e2) hl s nn (k + 1) (by omega) (by omega)
      rw [show ((k + 1 : Nat) : Int) = (k : Int) + 1 by omega] at ih
      rw [if_pos (by omega), chk_pos (by omega), Int.toNat_natCast, i64 (by omega) (by omega), drop_cons c]
      by_cases d : l.getD k 0 < -4
      · rw [if_pos d, if_neg (fun h => by have := (h _ (List.mem_cons_self ..)).1; omega)]; rfl
      · rw [if_neg d]
        by_cases d' : l.getD k 0 > 4
        · rw [if_pos d', if_neg (fun h => by have := (h _ (List.mem_cons_self ..)).2; omega)]; rfl
        · rw [if_neg d', ih]
          have e : (∀ x ∈ l.getD k 0 :: l.drop (k + 1), (-4 : Int) ≤ x ∧ x ≤ 4) ↔ ∀ x ∈ l.drop (k + 1), (-4 : Int) ≤ x ∧ x ≤ 4 :=
            ⟨fun h x hx => h x (List.mem_cons_of_mem _ hx), fun h x hx => (List.mem_cons.1 hx).elim (fun he => by rw [he]; omega) (fun hx => h x hx)⟩
          simp only [e]
    · rw [if_neg (by omega), if_pos (fun x hx => by rw [List.drop_eq_nil_of_le (by omega)] at hx; simp at hx)]
theorem spgood_loop {N : Nat} {e0 : Int} {e1 : Int} {e2 : Int} {e3 : Int} {e4 : Int} {e5 : Bool} {e6 : List Int} {e7 : List Int} {e8 : List Int} {e9 : List (List Int)} {l : List Int} (hl : l.length ≤ 1000000) (s : Bool) : ∀ (nn k : Nat), k ≤ l.length → l.length - k < nn →
    Rc.spgood.loop4 N nn e0 e1 e2 e3 e4 e5 e6 e7 e8 e9 (l.length : Int) l (k : Int) s = if ∀ x ∈ l.drop k, (0 : Int) ≤ x ∧ x ≤ 63 then some (.inl s) else some (.inr false)
  | 0, k, _, h => by omega
  | nn + 1, k, hk, h => by
    unfold Rc.spgood.loop4
    simp only [br_dec, chkL_same, chkI_same]
    by_cases c : k < l.length
    · have ih := spgood_loop (N := N) (e0 := e0) (e1 := e1) (e2 := e2) (e3 := e3) (e4 := e4) (e5 := e5) (e6 := e6) (e7 := e7) (e8 := e8) (e9 := e9) hl s nn (k + 1) (by omega) (by omega)
      rw [show ((k + 1 : Nat) : Int) = (k : Int) + 1 by omega] at ih
      rw [if_pos (by omega), chk_pos (by omega), Int.toNat_natCast, i64 (by omega) (by omega), drop_cons c]
      by_cases d : l.getD k 0 < 0
      · rw [if_pos d, if_neg (fun h => by have := (h _ (List.mem_cons_self ..)).1; omega)]; rfl
      · rw [if_neg d]
        by_cases d' : l.getD k 0 > 63
        · rw [if_pos d', if_neg (fun h => by have := (h _ (List.mem_cons_self ..)).2; omega)]; rfl
        · rw [if_neg d', ih]
          have e : (∀ x ∈ l.getD k 0 :: l.drop (k + 1), (0 : Int) ≤ x ∧ x ≤ 63) ↔ ∀ x ∈ l.drop (k + 1), (0 : Int) ≤ x ∧ x ≤ 63 :=
            ⟨fun h x hx => h x (List.mem_cons_of_mem _ hx), fun h x hx => (List.mem_cons.1 hx).elim (fun he => by rw [he]; omega) (fun hx => h x hx)⟩
          simp only [e]
    · rw [if_neg (by omega), if_pos (fun x hx => by rw [List.drop_eq_nil_of_le (by omega)] at hx; simp at hx)]
theorem getM_drop {l : List (List Int)} {k : Nat} (h : k < l.length) : l.drop k = l.getD k [] :: l.drop (k + 1) := by
  rw [List.drop_eq_getElem_cons h]; simp [List.getD_eq_getElem?_getD, List.getElem?_eq_getElem h]
theorem spltps_loop {N : Nat} {e0 : Int} {e1 e2 e3 : Int} {e4 : Bool} {e5 e6 e7 : List Int} {e8 : List (List Int)} {lo hi : Int} {l : List (List Int)} (hl : l.length ≤ 1000000) (s : Bool) : ∀ (nn k : Nat), k ≤ l.length → l.length - k < nn →
    Rc.spltps.loop5 N nn e0 e1 e2 e3 e4 e5 e6 e7 e8 lo hi (l.length : Int) l (k : Int) s = if ∀ r ∈ l.drop k, lo ≤ r.headD 0 ∧ r.headD 0 ≤ hi ∧ 0 ≤ r.tail.headD 0 ∧ r.tail.headD 0 ≤ 7 then some (.inl s) else some (.inr false)
  | 0, k, _, h => by omega
  | nn + 1, k, hk, h => by
    unfold Rc.spltps.loop5
    simp only [br_dec, chkL_same, chkI_same, chkR_same]
    by_cases c : k < l.length
    · have ih := spltps_loop (N := N) (e0 := e0) (e1 := e1) (e2 := e2) (e3 := e3) (e4 := e4) (e5 := e5) (e6 := e6) (e7 := e7) (e8 := e8) (lo := lo) (hi := hi) hl s nn (k + 1) (by omega) (by omega)
      rw [show ((k + 1 : Nat) : Int) = (k : Int) + 1 by omega] at ih
      have hf : Rc.tfilters.F N = some 8 := rfl
      rw [if_pos (by omega), chk_pos (by omega), Int.toNat_natCast, i64 (by omega) (by omega), getM_drop c, hf]
      simp only [obind_of]
      by_cases d1 : (l.getD k []).headD 0 < lo
      · rw [if_pos d1, if_neg (fun h => by have := (h _ (List.mem_cons_self ..)).1; omega)]; rfl
      rw [if_neg d1]
      by_cases d2 : (l.getD k []).headD 0 > hi
      · rw [if_pos d2, if_neg (fun h => by have := (h _ (List.mem_cons_self ..)).2.1; omega)]; rfl
      rw [if_neg d2]
      by_cases d3 : (l.getD k []).tail.headD 0 < 0
      · rw [if_pos d3, if_neg (fun h => by have := (h _ (List.mem_cons_self ..)).2.2.1; omega)]; rfl
      rw [if_neg d3]
      by_cases d4 : (l.getD k []).tail.headD 0 ≥ 8
      · rw [if_pos d4, if_neg (fun h => by have := (h _ (List.mem_cons_self ..)).2.2.2; omega)]; rfl
      rw [if_neg d4, ih]
      have e : (∀ r ∈ l.getD k [] :: l.drop (k + 1), lo ≤ r.headD 0 ∧ r.headD 0 ≤ hi ∧ 0 ≤ r.tail.headD 0 ∧ r.tail.headD 0 ≤ 7) ↔ ∀ r ∈ l.drop (k + 1), lo ≤ r.headD 0 ∧ r.headD 0 ≤ hi ∧ 0 ≤ r.tail.headD 0 ∧ r.tail.headD 0 ≤ 7 :=
        ⟨fun h x hx => h x (List.mem_cons_of_mem _ hx), fun h x hx => by
          rcases List.mem_cons.1 hx with rfl | hx
          · omega
          · exact h x hx⟩
      simp only [e]
    · rw [if_neg (by omega), if_pos (fun x hx => by rw [List.drop_eq_nil_of_le (by omega)] at hx; simp at hx)]
structure GoodF (rate ms kind one btw : Int) (two gains pulses : List Int) (ltps : List (List Int)) : Prop where
  may : May14 rate ms
  kd : 0 ≤ kind ∧ kind ≤ 2
  on : 0 ≤ one ∧ one ≤ 15
  tw : two.length = ord14 rate ∧ ∀ x ∈ two, -4 ≤ x ∧ x ≤ 4
  bt : 0 ≤ btw ∧ btw ≤ 4
  ga : gains.length = cnt14 ms ∧ ∀ x ∈ gains, 0 ≤ x ∧ x ≤ 63
  lt : if kind = 2 then ltps.length = cnt14 ms ∧ ∀ r ∈ ltps, lo8 rate ≤ r.headD 0 ∧ r.headD 0 ≤ hi8 rate ∧ 0 ≤ r.tail.headD 0 ∧ r.tail.headD 0 ≤ 7 else ltps = []
  pu : if kind = 0 then pulses = [] else pulses.length = 16 * blk14 rate ms ∧ goodB pulses = true
section
variable {N : Nat}
theorem spgood_F (hN : 30000 ≤ N) {rate ms kind one btw : Int} {fresh : Bool} {two gains pulses : List Int} {ltps : List (List Int)} (l3 : ltps.length ≤ 1000000) :
    (GoodF rate ms kind one btw two gains pulses ltps → Rc.spgood.F N rate ms kind one btw fresh two gains pulses ltps = some true) ∧
    (¬ GoodF rate ms kind one btw two gains pulses ltps → ltps.length < N → Rc.spgood.F N rate ms kind one btw fresh two gains pulses ltps = some false) := by
  have main : ltps.length < N → (GoodF rate ms kind one btw two gains pulses ltps → Rc.spgood.F N rate ms kind one btw fresh two gains pulses ltps = some true) ∧ (¬ GoodF rate ms kind one btw two gains pulses ltps → Rc.spgood.F N rate ms kind one btw fresh two gains pulses ltps = some false) := by
    intro n3
    unfold Rc.spgood.F
    simp only [br_dec, br_bne, br_not, chkI_same, chkL_same, spmay_F, obind_of, decide_eq_true_eq]
    rcases Classical.em (¬ (May14 rate ms)) with c1 | c1
    · rw [if_neg (by simpa [May14] using c1)]
      exact ⟨fun h => absurd h.may c1, fun _ => rfl⟩
    have c1 := Classical.not_not.1 c1
    obtain ⟨m1, m2, m3, m4, m5, m6, m7, m8⟩ := may_facts c1
    have ho := ord14_le rate
    rw [if_pos (by simpa [May14] using c1)]
    by_cases c2 : kind < 0
    · rw [if_pos c2]; exact ⟨fun h => by have := h.kd; omega, fun _ => rfl⟩
    rw [if_neg c2]
    by_cases c3 : kind > 2
    · rw [if_pos c3]; exact ⟨fun h => by have := h.kd; omega, fun _ => rfl⟩
    rw [if_neg c3, torder_F, obind_of]
    have hlg : Rc.lgood.F N (ord14 rate : Int) one two = some (decide (0 ≤ one ∧ one ≤ 15 ∧ two.length = ord14 rate ∧ ∀ x ∈ two, -4 ≤ x ∧ x ≤ 4)) := by
      have hu : ∃ u : Int, Rc.lunit.F N (ord14 rate : Int) = some u ∧ u ≠ 0 := by
        rcases c1.1 with rfl | rfl
        · exact ⟨400, rfl, by decide⟩
        · exact ⟨250, rfl, by decide⟩
      obtain ⟨u, hu1, hu2⟩ := hu
      unfold Rc.lgood.F
      simp only [br_dec, br_bne, br_beq]
      rw [hu1, obind_of, if_neg hu2]
      by_cases d1 : one < 0
      · rw [if_pos d1, decide_eq_false (by omega)]
      rw [if_neg d1]
      by_cases d2 : one ≥ 16
      · rw [if_pos d2, decide_eq_false (by omega)]
      rw [if_neg d2]
      by_cases d3 : two.length = ord14 rate
      · rw [if_pos (by omega)]
        have := lgood_loop (N := N) (e0 := (ord14 rate : Int)) (e1 := one) (e2 := two) (l := two) (by omega) false N 0 (by omega) (by omega)
        rw [show ((0 : Nat) : Int) = 0 from rfl, List.drop_zero] at this
        rw [this]
        by_cases d4 : ∀ x ∈ two, -4 ≤ x ∧ x ≤ 4
        · rw [if_pos d4, osum_inl, decide_eq_true ⟨by omega, by omega, d3, d4⟩]
        · rw [if_neg d4, decide_eq_false (fun h => d4 h.2.2.2)]; rfl
      · rw [if_neg (by omega), decide_eq_false (fun h => d3 h.2.2.1)]
    rw [hlg, obind_of]
    rcases Classical.em (¬ (0 ≤ one ∧ one ≤ 15 ∧ two.length = ord14 rate ∧ ∀ x ∈ two, -4 ≤ x ∧ x ≤ 4)) with c4 | c4
    · rw [if_neg (by simpa using c4)]
      exact ⟨fun h => absurd ⟨h.on.1, h.on.2, h.tw⟩ c4, fun _ => rfl⟩
    have c4 := Classical.not_not.1 c4
    rw [if_pos (decide_eq_true c4)]
    by_cases c5 : btw < 0
    · rw [if_pos c5]; exact ⟨fun h => by have := h.bt; omega, fun _ => rfl⟩
    rw [if_neg c5]
    by_cases c6 : btw ≥ 5
    · rw [if_pos c6]; exact ⟨fun h => by have := h.bt; omega, fun _ => rfl⟩
    rw [if_neg c6, m2, i64 (x := (cnt14 ms : Int)) (by omega) (by omega)]
    rcases Classical.em (¬ (gains.length = cnt14 ms)) with c7 | c7
    · rw [if_neg (by omega)]; exact ⟨fun h => absurd h.ga.1 c7, fun _ => rfl⟩
    have c7 := Classical.not_not.1 c7
    rw [if_pos (by omega)]
    have hgl := spgood_loop (N := N) (e0 := rate) (e1 := ms) (e2 := kind) (e3 := one) (e4 := btw) (e5 := fresh) (e6 := two) (e7 := gains) (e8 := pulses) (e9 := ltps) (l := gains) (by omega) false N 0 (by omega) (by omega)
    rw [show ((0 : Nat) : Int) = 0 from rfl, List.drop_zero] at hgl
    rw [hgl]
    rcases Classical.em (¬ (∀ x ∈ gains, 0 ≤ x ∧ x ≤ 63)) with c8 | c8
    · rw [if_neg c8]; exact ⟨fun h => absurd h.ga.2 c8, fun _ => rfl⟩
    have c8 := Classical.not_not.1 c8
    rw [if_pos c8, osum_inl]
    have hlt : Rc.spltps.F N rate kind one btw fresh two gains pulses ltps = some (decide (if kind = 2 then ltps.length = cnt14 ms ∧ ∀ r ∈ ltps, lo8 rate ≤ r.headD 0 ∧ r.headD 0 ≤ hi8 rate ∧ 0 ≤ r.tail.headD 0 ∧ r.tail.headD 0 ≤ 7 else ltps = [])) := by
      unfold Rc.spltps.F
      simp only [br_bne, glags_F, obind_of, chkL_same, chkI_same, chkB_same, chkR_same]
      by_cases d1 : kind = 2
      · rw [if_pos d1]
        have := spltps_loop (N := N) (e0 := rate) (e1 := kind) (e2 := one) (e3 := btw) (e4 := fresh) (e5 := two) (e6 := gains) (e7 := pulses) (e8 := ltps) (lo := lo8 rate) (hi := hi8 rate) (l := ltps) l3 false N 0 (by omega) (by omega)
        rw [show ((0 : Nat) : Int) = 0 from rfl, List.drop_zero] at this
        rw [this]
        simp only [if_pos d1]
        by_cases d2 : ∀ r ∈ ltps, lo8 rate ≤ r.headD 0 ∧ r.headD 0 ≤ hi8 rate ∧ 0 ≤ r.tail.headD 0 ∧ r.tail.headD 0 ≤ 7
        · rw [if_pos d2, osum_inl, c7]
          congr 1
          by_cases d3 : ltps.length = cnt14 ms
          · rw [decide_eq_true ⟨d3, d2⟩]; simp [d3]
          · rw [decide_eq_false (fun h => d3 h.1)]; simp; omega
        · rw [if_neg d2, decide_eq_false (fun h => d2 h.2)]; rfl
      · rw [if_neg d1]
        simp only [if_neg d1]
        congr 1
        by_cases d3 : ltps = []
        · simp [d3]
        · rw [decide_eq_false d3]
          have : ltps.length ≠ 0 := fun h => d3 (List.eq_nil_of_length_eq_zero h)
          simp; omega
    rw [hlt, obind_of]
    rcases Classical.em (¬ ((if kind = 2 then ltps.length = cnt14 ms ∧ ∀ r ∈ ltps, lo8 rate ≤ r.headD 0 ∧ r.headD 0 ≤ hi8 rate ∧ 0 ≤ r.tail.headD 0 ∧ r.tail.headD 0 ≤ 7 else ltps = []))) with c9 | c9
    · rw [decide_eq_false c9, br_false]; exact ⟨fun h => absurd h.lt c9, fun _ => rfl⟩
    have c9 := Classical.not_not.1 c9
    rw [decide_eq_true c9, br_true]
    have hpu : Rc.sppulses.F N rate ms kind one btw fresh two gains pulses ltps = some (decide (if kind = 0 then pulses = [] else pulses.length = 16 * blk14 rate ms ∧ goodB pulses = true)) := by
      unfold Rc.sppulses.F
      simp only [br_beq, chkL_same, chkI_same, chkB_same, chkR_same]
      by_cases d1 : kind = 0
      · rw [if_pos d1]
        simp only [if_pos d1]
        congr 1
        by_cases d3 : pulses = []
        · simp [d3]
        · rw [decide_eq_false d3]
          have : pulses.length ≠ 0 := fun h => d3 (List.eq_nil_of_length_eq_zero h)
          simp; omega
      · rw [if_neg d1, m8, m5, i64 (x := 16 * (blk14 rate ms : Int)) (by omega) (by omega)]
        simp only [if_neg d1]
        by_cases d2 : pulses.length = 16 * blk14 rate ms
        · rw [if_pos (by omega), good9_F _ hN, obind_of]
          congr 1
          cases hg : goodB pulses with
          | true => rw [decide_eq_true ⟨d2, rfl⟩]
          | false => rw [decide_eq_false (fun h => by simp at h)]
        · rw [if_neg (by omega), decide_eq_false (fun h => d2 h.1)]
    rw [hpu, obind_of]
    by_cases c10 : (if kind = 0 then pulses = [] else pulses.length = 16 * blk14 rate ms ∧ goodB pulses = true)
    · rw [decide_eq_true c10]
      exact ⟨fun _ => rfl, fun h => absurd ⟨c1, by omega, ⟨c4.1, c4.2.1⟩, c4.2.2, by omega, ⟨c7, c8⟩, c9, c10⟩ h⟩
    · rw [decide_eq_false c10]
      exact ⟨fun h => absurd h.pu c10, fun _ => rfl⟩
  refine ⟨fun h => ?_, fun h n3 => (main n3).2 h⟩
  have ho := ord14_le rate
  have hc := (may_facts h.may).2.2.2.1
  have h1 := h.tw.1
  have h2 := h.ga.1
  have h3 : ltps.length ≤ 4 := by
    have := h.lt
    split at this
    · omega
    · rw [this]; simp
  exact (main (by omega)).1 h
end
end Go.Pl
/-
  Layer 14: what is made of frequencies: that it comes to an end, and how great it is.
  Conditions: none.
-/
namespace Go.Pl
open Go.Eng Go.Proofs
def Sat {X : Type} (x : Option X) (P : X → Prop) : Prop := ∃ r, x = some r ∧ P r
theorem Sat.some {X : Type} {r : X} {P : X → Prop} (h : P r) : Sat (some r) P := ⟨r, rfl, h⟩
theorem Sat.obind {X Y : Type} {x : Option X} {k : X → Option Y} {P : X → Prop} {Q : Y → Prop} (h : Sat x P) (hk : ∀ r, P r → Sat (k r) Q) : Sat (obind x k) Q := by
  obtain ⟨r, rfl, hr⟩ := h
  exact hk r hr
theorem Sat.chk {Y : Type} {c : Prop} [Decidable c] {k : Option Y} {Q : Y → Prop} (h : c) (hk : Sat k Q) : Sat (chk c k) Q := by rw [chk_pos h]; exact hk
theorem Sat.br {Y : Type} {b : Bool} {t e : Option Y} {Q : Y → Prop} (ht : b = true → Sat t Q) (he : b = false → Sat e Q) : Sat (br b t e) Q := by
  cases b
  · exact he rfl
  · exact ht rfl
theorem Sat.mono {X : Type} {x : Option X} {P Q : X → Prop} (h : Sat x P) (hq : ∀ r, P r → Q r) : Sat x Q := by
  obtain ⟨r, h1, h2⟩ := h
  exact ⟨r, h1, hq r h2⟩
theorem Sat.eq {X : Type} {x : Option X} {v : X} {P : X → Prop} (h : x = Option.some v) (hp : P v) : Sat x P := ⟨v, h, hp⟩
theorem chkN_same {Y : Type} (x : Nat) (k : Option Y) : chkN x x k = k := by simp [chkN]
def clp (lo hi a : Int) : Int := if a < lo then lo else if a > hi then hi else a
theorem clp_range {lo hi : Int} (h : lo ≤ hi) (a : Int) : lo ≤ clp lo hi a ∧ clp lo hi a ≤ hi := by
  unfold clp
  split
  · omega
  · split <;> omega
section
variable {N : Nat}
theorem clamp_F {lo hi : Int} (h : lo ≤ hi) (a : Int) : Rc.clamp.F N a lo hi = some (clp lo hi a) := by
  unfold Rc.clamp.F clp
  simp only [br_dec]
  rw [if_neg (by omega)]
  split
  · rfl
  · split <;> rfl
def fc (a : Int) : Int := clp (-2147483648) 2147483648 a
theorem fc_range (a : Int) : -2147483648 ≤ fc a ∧ fc a ≤ 2147483648 := clp_range (by omega) a
theorem fc_id {a : Int} (h0 : -2147483648 ≤ a) (h1 : a ≤ 2147483648) : fc a = a := by unfold fc clp; rw [if_neg (by omega), if_neg (by omega)]
theorem factor_F (a : Int) : Rc.factor.F N a = some (fc a) := by
  unfold Rc.factor.F
  rw [clamp_F (by omega), obind_of]
  rfl
theorem prod_range {x y M : Int} (hx : -M ≤ x ∧ x ≤ M) (hy : -M ≤ y ∧ y ≤ M) : -(M * M) ≤ x * y ∧ x * y ≤ M * M := by
  have hM : 0 ≤ M := by omega
  have key : ∀ a b : Int, 0 ≤ a → a ≤ M → 0 ≤ b → b ≤ M → 0 ≤ a * b ∧ a * b ≤ M * M := fun a b a0 a1 b0 b1 => ⟨Int.mul_nonneg a0 b0, Int.mul_le_mul a1 b1 b0 hM⟩
  rcases Int.le_total 0 x with h1 | h1 <;> rcases Int.le_total 0 y with h2 | h2
  · have := key x y h1 hx.2 h2 hy.2; omega
  · have := key x (-y) h1 hx.2 (by omega) (by omega); rw [Int.mul_neg] at this; omega
  · have := key (-x) y (by omega) (by omega) h2 hy.2; rw [Int.neg_mul] at this; omega
  · have := key (-x) (-y) (by omega) (by omega) (by omega) (by omega); rw [Int.neg_mul_neg] at this; omega
def ml (a b : Int) (s : Nat) : Int := (fc a * fc b + 2 ^ (s - 1)) / 2 ^ s
theorem pow_le61 {s : Nat} (h : s ≤ 61) : (1 : Int) ≤ 2 ^ s ∧ (2 : Int) ^ s ≤ 2305843009213693952 := by
  have h1 := p2pos s
  have h2 : (2 : Int) ^ s ≤ 2 ^ 61 := p2le h
  have h3 : (2 : Int) ^ 61 = 2305843009213693952 := by decide
  omega
theorem fmul_F {s : Nat} (h0 : 1 ≤ s) (h1 : s ≤ 62) (a b : Int) : Rc.fmul.F N a b (s : Int) = some (ml a b s) := by
  obtain ⟨p0, p1⟩ := pow_le61 (s := s - 1) (by omega)
  obtain ⟨q0, q1⟩ := prod_range (fc_range a) (fc_range b)
  unfold Rc.fmul.F ml
  simp only [br_dec, br_beq]
  rw [factor_F, obind_of, factor_F, obind_of, if_neg (by omega), if_neg (by omega), if_neg (by omega), i64 (x := (s : Int) - 1) (by omega) (by omega), chk_pos (by omega), chk_pos (by omega), bits_i64, show ((s : Int) - 1).toNat = s - 1 by omega, Int.toNat_natCast,
    show min (s - 1) 64 = s - 1 by omega, show min s 64 = s by omega, Int.one_mul, i64 (x := fc a * fc b) (by omega) (by omega), i64 (x := (2 : Int) ^ (s - 1)) (by omega) (by omega), i64 (by omega) (by omega), fdiv_ediv (by have := p2pos s; omega)]
theorem ml_zero_left (b : Int) {s : Nat} (h0 : 1 ≤ s) : ml 0 b s = 0 := by
  have e2 : (2 : Int) ^ s = 2 * 2 ^ (s - 1) := by rw [show s = s - 1 + 1 by omega, Int.pow_succ, show s - 1 + 1 - 1 = s - 1 by omega]; omega
  have := p2pos (s - 1)
  have hf : fc 0 = 0 := by decide
  unfold ml
  rw [hf, Int.zero_mul, Int.zero_add, e2]
  exact Int.ediv_eq_zero_of_lt (by omega) (by omega)
theorem ml_comm (a b : Int) (s : Nat) : ml a b s = ml b a s := by unfold ml; rw [Int.mul_comm]
theorem ml_zero_right (a : Int) {s : Nat} (h0 : 1 ≤ s) : ml a 0 s = 0 := by rw [ml_comm]; exact ml_zero_left a h0
theorem ml_part {v c M : Int} (hM : 0 ≤ M ∧ M ≤ 131072) (hv : -M ≤ v ∧ v ≤ M) (hc : 0 ≤ c ∧ c ≤ 65536) : -M ≤ ml v c 16 ∧ ml v c 16 ≤ M := by
  unfold ml
  rw [fc_id (a := v) (by omega) (by omega), fc_id (a := c) (by omega) (by omega)]
  have k1 : v * c ≤ M * 65536 := by
    rcases Int.le_total 0 v with h | h
    · exact Int.mul_le_mul hv.2 hc.2 hc.1 hM.1
    · have := Int.mul_nonneg (show 0 ≤ -v by omega) hc.1
      rw [Int.neg_mul] at this
      omega
  have k2 : -(M * 65536) ≤ v * c := by
    rcases Int.le_total 0 v with h | h
    · have := Int.mul_nonneg h hc.1; omega
    · have := Int.mul_le_mul (show -v ≤ M by omega) hc.2 hc.1 hM.1
      rw [Int.neg_mul] at this
      omega
  show -M ≤ (v * c + 32768) / 65536 ∧ (v * c + 32768) / 65536 ≤ M
  omega
theorem fdiv_T (a b : Int) {s : Nat} (h : s ≤ 30) : Sat (Rc.fdiv.F N a b (s : Int)) fun _ => True := by
  unfold Rc.fdiv.F
  simp only [br_dec, br_beq]
  rw [factor_F, obind_of, factor_F, obind_of]
  split
  · exact ⟨_, rfl, trivial⟩
  · rename_i hb
    rw [if_neg (by omega), if_neg (by omega), chk_pos (by omega), chk_pos hb, chk_pos hb]
    exact Sat.br (fun _ => Sat.br (fun _ => ⟨_, rfl, trivial⟩) fun _ => ⟨_, rfl, trivial⟩) fun _ => ⟨_, rfl, trivial⟩
theorem fmul_T (a b : Int) {s : Nat} (h0 : 1 ≤ s) (h1 : s ≤ 62) : Sat (Rc.fmul.F N a b (s : Int)) fun _ => True := ⟨_, fmul_F h0 h1 a b, trivial⟩
theorem fseries_loop {x : Int} : ∀ (nn k : Nat) (l : List Int) (s : Int), k ≤ l.length → l.length < 1000000 → l.length - k < nn → Sat (Rc.fseries.loop3 N nn x (l.length : Int) l s (k : Int)) fun _ => True
  | 0, k, l, s, _, _, h => by omega
  | nn + 1, k, l, s, hk, hl, h => by
    unfold Rc.fseries.loop3
    simp only [br_dec, chkI_same, chkL_same]
    by_cases c : k < l.length
    · rw [if_pos (by omega), chk_pos (by omega)]
      refine Sat.obind (fmul_T (s := 30) _ _ (by omega) (by omega)) fun r _ => ?_
      rw [i64 (x := (k : Int) + 1) (by omega) (by omega)]
      exact fseries_loop nn (k + 1) l _ (by omega) hl (by omega)
    · rw [if_neg (by omega)]; exact ⟨_, rfl, trivial⟩
theorem fseries_T (hN : 30000 ≤ N) (x : Int) {l : List Int} (h0 : 1 ≤ l.length) (h1 : l.length ≤ 100) : Sat (Rc.fseries.F N x l) fun _ => True := by
  unfold Rc.fseries.F
  rw [chk_pos (by omega), chk_pos (by omega)]
  exact Sat.obind (fseries_loop N 0 _ _ (Nat.zero_le _) (by rw [List.length_take, List.length_drop]; omega) (by rw [List.length_take, List.length_drop]; omega)) fun r _ => ⟨_, rfl, trivial⟩
section
variable {a : Int}
theorem cosA_T (hN : 30000 ≤ N) (x : Int) (c : Bool) : Sat (obind (Rc.fmul.F N x 1686629713 14) fun r9 => obind (Rc.fmul.F N r9 r9 30) fun r10 => obind (Rc.fseries.F N r10 [(-296 : Int), 26631, -1491308, 44739243, -536870912, 1073741824]) fun r11 => obind (Rc.fmul.F N r11 1 15) fun r12 => br c (some (IntKind.i64.wrap (0 - r12))) (some r12)) fun _ => True :=
  Sat.obind (fmul_T (s := 14) _ _ (by omega) (by omega)) fun _ _ => Sat.obind (fmul_T (s := 30) _ _ (by omega) (by omega)) fun _ _ => Sat.obind (fseries_T hN _ (by decide) (by decide)) fun _ _ => Sat.obind (fmul_T (s := 15) _ _ (by omega) (by omega)) fun _ _ => Sat.br (fun _ => ⟨_, rfl, trivial⟩) fun _ => ⟨_, rfl, trivial⟩
theorem cosB_T (hN : 30000 ≤ N) (x : Int) (c : Bool) : Sat (obind (Rc.fmul.F N x 1686629713 14) fun r13 => obind (Rc.fmul.F N r13 r13 30) fun r14 => obind (Rc.fseries.F N r14 [(2959 : Int), -213044, 8947849, -178956971, 1073741824]) fun r15 => obind (Rc.fmul.F N r13 r15 30) fun r16 => obind (Rc.fmul.F N r16 1 15) fun r17 => br c (some (IntKind.i64.wrap (0 - r17))) (some r17)) fun _ => True :=
  Sat.obind (fmul_T (s := 14) _ _ (by omega) (by omega)) fun _ _ => Sat.obind (fmul_T (s := 30) _ _ (by omega) (by omega)) fun _ _ => Sat.obind (fseries_T hN _ (by decide) (by decide)) fun _ _ => Sat.obind (fmul_T (s := 30) _ _ (by omega) (by omega)) fun _ _ => Sat.obind (fmul_T (s := 15) _ _ (by omega) (by omega)) fun _ _ => Sat.br (fun _ => ⟨_, rfl, trivial⟩) fun _ => ⟨_, rfl, trivial⟩
end
theorem fcos_T (hN : 30000 ≤ N) (a : Int) : Sat (Rc.fcos.F N a) fun _ => True := by
  unfold Rc.fcos.F
  exact Sat.br (fun _ => Sat.br (fun _ => Sat.br (fun _ => cosA_T hN _ _) fun _ => cosB_T hN _ _) fun _ => Sat.br (fun _ => cosA_T hN _ _) fun _ => cosB_T hN _ _)
    fun _ => Sat.br (fun _ => Sat.br (fun _ => cosA_T hN _ _) fun _ => cosB_T hN _ _) fun _ => Sat.br (fun _ => cosA_T hN _ _) fun _ => cosB_T hN _ _
end
end Go.Pl
/-
  Layer 14: frequencies and filters: that they come to an end, how many numbers, how great.
  Conditions: none.
-/
namespace Go.Pl
open Go.Eng Go.Proofs
section
variable {N : Nat}
theorem lclamped_loop3_T {l : List Int} (hl : l.length ≤ 1000) : ∀ (nn k : Nat) (l0 : List Int), k ≤ l.length → l0.length = l.length → l.length - k < nn → (∀ x ∈ l0.take k, (0 : Int) ≤ x ∧ x ≤ 32768) →
    Sat (Rc.lclamped.loop3 N nn (l.length : Int) l (k : Int) l0) fun r => r.length = l.length ∧ ∀ x ∈ r, (0 : Int) ≤ x ∧ x ≤ 32768
  | 0, k, l0, _, _, h, _ => by omega
  | nn + 1, k, l0, hk, h0, h, hx => by
    unfold Rc.lclamped.loop3
    simp only [br_dec, chkI_same, chkL_same]
    by_cases c : k < l.length
    · have hc := clp_range (lo := 0) (hi := 32768) (by omega) (l.getD k 0)
      rw [if_pos (by omega), chk_pos (by omega), clamp_F (by omega), obind_of, chk_pos (by omega), Int.toNat_natCast, i64 (x := (k : Int) + 1) (by omega) (by omega)]
      refine lclamped_loop3_T hl nn (k + 1) _ (by omega) (by simpa using h0) (by omega) fun x hx' => ?_
      rw [List.take_add_one, List.take_set_of_le (by omega), List.getElem?_set_self (by omega)] at hx'
      rcases List.mem_append.1 hx' with h1 | h1
      · exact hx x h1
      · simp only [Option.toList_some, List.mem_singleton] at h1
        omega
    · rw [if_neg (by omega)]
      exact Sat.some ⟨h0, fun x hx' => hx x (by rwa [List.take_of_length_le (by omega)])⟩
theorem lfit_loop5_T {l : List Int} (hl : l.length ≤ 1000) : ∀ (nn k : Nat) (l0 : List Int), k ≤ l.length → l0.length = l.length → l.length - k < nn → (∀ x ∈ l0.take k, (-131072 : Int) ≤ x ∧ x ≤ 131072) →
    Sat (Rc.lfit.loop5 N nn (l.length : Int) l (k : Int) l0) fun r => r.length = l.length ∧ ∀ x ∈ r, (-131072 : Int) ≤ x ∧ x ≤ 131072
  | 0, k, l0, _, _, h, _ => by omega
  | nn + 1, k, l0, hk, h0, h, hx => by
    unfold Rc.lfit.loop5
    simp only [br_dec, chkI_same, chkL_same]
    by_cases c : k < l.length
    · have hc := clp_range (lo := -131072) (hi := 131072) (by omega) (l.getD k 0)
      rw [if_pos (by omega), chk_pos (by omega), clamp_F (by omega), obind_of, chk_pos (by omega), Int.toNat_natCast, i64 (x := (k : Int) + 1) (by omega) (by omega)]
      refine lfit_loop5_T hl nn (k + 1) _ (by omega) (by simpa using h0) (by omega) fun x hx' => ?_
      rw [List.take_add_one, List.take_set_of_le (by omega), List.getElem?_set_self (by omega)] at hx'
      rcases List.mem_append.1 hx' with h1 | h1
      · exact hx x h1
      · simp only [Option.toList_some, List.mem_singleton] at h1
        omega
    · rw [if_neg (by omega)]
      exact Sat.some ⟨h0, fun x hx' => hx x (by rwa [List.take_of_length_le (by omega)])⟩
theorem lstable_loop5_T {l : List Int} (hl : l.length ≤ 1000) : ∀ (nn k : Nat) (l0 : List Int), k ≤ l.length → l0.length = l.length → l.length - k < nn → (∀ x ∈ l0.take k, (-536870912 : Int) ≤ x ∧ x ≤ 536870912) →
    Sat (Rc.lstable.loop5 N nn (l.length : Int) l (k : Int) l0) fun r => r.length = l.length ∧ ∀ x ∈ r, (-536870912 : Int) ≤ x ∧ x ≤ 536870912
  | 0, k, l0, _, _, h, _ => by omega
  | nn + 1, k, l0, hk, h0, h, hx => by
    unfold Rc.lstable.loop5
    simp only [br_dec, chkI_same, chkL_same]
    by_cases c : k < l.length
    · have hc := clp_range (lo := -131072) (hi := 131072) (by omega) (l.getD k 0)
      rw [if_pos (by omega), chk_pos (by omega), clamp_F (by omega), obind_of, chk_pos (by omega), Int.toNat_natCast, i64 (x := (k : Int) + 1) (by omega) (by omega), i64 (x := 4096 * _) (by omega) (by omega)]
      refine lstable_loop5_T hl nn (k + 1) _ (by omega) (by simpa using h0) (by omega) fun x hx' => ?_
      rw [List.take_add_one, List.take_set_of_le (by omega), List.getElem?_set_self (by omega)] at hx'
      rcases List.mem_append.1 hx' with h1 | h1
      · exact hx x h1
      · simp only [Option.toList_some, List.mem_singleton] at h1
        omega
    · rw [if_neg (by omega)]
      exact Sat.some ⟨h0, fun x hx' => hx x (by rwa [List.take_of_length_le (by omega)])⟩
theorem lclamped_T (hN : 30000 ≤ N) {l : List Int} (hl : l.length ≤ 1000) : Sat (Rc.lclamped.F N l) fun r => r.length = l.length ∧ ∀ x ∈ r, 0 ≤ x ∧ x ≤ 32768 := by
  unfold Rc.lclamped.F
  rw [chk_pos (by omega), Int.toNat_natCast]
  have := lclamped_loop3_T (N := N) hl N 0 (List.replicate l.length 0) (Nat.zero_le _) (by simp) (by omega) (fun x hx => by simp at hx)
  exact Sat.obind this fun r h => Sat.some h
theorem lsteady_up {len : Nat} (hl : len ≤ 1000) : ∀ (nn k : Nat) (s : Int) (l0 : List Int), k ≤ len → l0.length = len → len - k < nn → Sat (Rc.lsteady.loop6 N nn (len : Int) s (k : Int) l0) fun r => r.2.length = len
  | 0, k, s, l0, _, _, h => by omega
  | nn + 1, k, s, l0, hk, h0, h => by
    unfold Rc.lsteady.loop6
    simp only [br_dec, chkI_same, chkL_same]
    by_cases c : k < len
    · rw [if_pos (by omega), chk_pos (by omega), chk_pos (by omega), chk_pos (by rw [List.length_set]; omega), i64 (x := (k : Int) + 1) (by omega) (by omega)]
      exact lsteady_up hl nn (k + 1) _ _ (by omega) (by rw [List.length_set]; exact h0) (by omega)
    · rw [if_neg (by omega)]; exact Sat.some h0
theorem lsteady_down {len : Nat} (hl : len ≤ 1000) : ∀ (nn k : Nat) (s : Int) (l0 : List Int), k ≤ len → l0.length = len → k < nn → Sat (Rc.lsteady.loop13 N nn s ((k : Int) - 1) l0) fun r => r.2.length = len
  | 0, k, s, l0, _, _, h => by omega
  | nn + 1, 0, s, l0, hk, h0, h => by
    unfold Rc.lsteady.loop13
    simp only [br_dec]
    rw [if_neg (by omega)]; exact Sat.some h0
  | nn + 1, k + 1, s, l0, hk, h0, h => by
    unfold Rc.lsteady.loop13
    simp only [br_dec]
    rw [show ((k + 1 : Nat) : Int) - 1 = (k : Int) by omega, if_pos (by omega), chk_pos (by omega), chk_pos (by omega), chk_pos (by rw [List.length_set]; omega), i64 (x := (k : Int) - 1) (by omega) (by omega)]
    exact lsteady_down hl nn k _ _ (by omega) (by rw [List.length_set]; exact h0) (by omega)
theorem lsteady_T (hN : 30000 ≤ N) {l : List Int} (hl : l.length ≤ 64) : Sat (Rc.lsteady.F N l) fun r => r.length = l.length := by
  unfold Rc.lsteady.F
  simp only [br_dec]
  rw [if_neg (by omega)]
  refine Sat.obind (lclamped_T hN (by omega)) fun r0 h0 => ?_
  refine Sat.obind (lsteady_up (len := r0.length) (by omega) N 0 0 r0 (Nat.zero_le _) rfl (by omega)) fun r1 h1 => ?_
  rw [h1, i64 (x := (r0.length : Int) - 1) (by omega) (by omega)]
  exact Sat.obind (lsteady_down (len := r0.length) (by omega) N r0.length _ r1.2 (Nat.le_refl _) h1 (by omega)) fun r2 h2 => Sat.some (h2.trans h0.1)
noncomputable def lsfLens (N : Nat) (o : Int) : List (Option Nat) := (List.range 16).map fun (i : Nat) => obind (Rc.tlsf.F N o (i : Int)) fun l => some l.length
theorem lsf10 (N : Nat) : lsfLens (N + 1000) 10 = List.replicate 16 (some 10) := by kernel_rfl
theorem lsf16 (N : Nat) : lsfLens (N + 1000) 16 = List.replicate 16 (some 16) := by kernel_rfl
theorem tlsf_T (hN : 30000 ≤ N) {rate one : Int} (hr : rate = 8000 ∨ rate = 16000) (h0 : 0 ≤ one) (h1 : one ≤ 15) : Sat (Rc.tlsf.F N (ord14 rate : Int) one) fun r => r.length = ord14 rate := by
  obtain ⟨i, rfl⟩ : ∃ i : Nat, one = (i : Int) := ⟨one.toNat, by omega⟩
  obtain ⟨K, rfl⟩ : ∃ K, N = K + 1000 := ⟨N - 1000, by omega⟩
  have key : ∀ (o : Int) (n : Nat), lsfLens (K + 1000) o = List.replicate 16 (some n) → Sat (Rc.tlsf.F (K + 1000) o (i : Int)) fun r => r.length = n := by
    intro o n h
    have e := congrArg (fun l => l[i]?) h
    simp only [lsfLens, List.getElem?_map, List.getElem?_range (show i < 16 by omega), Option.map_some, List.getElem?_replicate] at e
    rw [if_pos (by omega)] at e
    cases hx : Rc.tlsf.F (K + 1000) o (i : Int) with
    | none => rw [hx] at e; simp [Eng.obind] at e
    | some r => rw [hx, obind_of] at e; exact ⟨r, rfl, by simpa using e⟩
  rcases hr with rfl | rfl
  · exact key _ _ (lsf10 K)
  · exact key _ _ (lsf16 K)
theorem ldecode_loop {order : Int} {u : Int} (hu : Rc.lunit.F N order = some u) {one : Int} {two : List Int} {len : Nat} (h2 : two.length = len) (hl : len ≤ 1000) : ∀ (nn k : Nat) (l1 : List Int), k ≤ len → l1.length = len → len - k < nn → Sat (Rc.ldecode.loop5 N nn order (len : Int) one two (k : Int) l1) fun r => r.length = len
  | 0, k, l0, _, _, h => by omega
  | nn + 1, k, l0, hk, h0, h => by
    unfold Rc.ldecode.loop5
    simp only [br_dec, chkI_same, chkL_same, chkN_same]
    by_cases c : k < len
    · rw [if_pos (by omega), chk_pos (by omega), hu, obind_of, chk_pos (by omega), chk_pos (by omega), chk_pos (by omega), i64 (x := (k : Int) + 1) (by omega) (by omega)]
      exact ldecode_loop hu h2 hl nn (k + 1) _ (by omega) (by rw [List.length_set]; exact h0) (by omega)
    · rw [if_neg (by omega)]; exact Sat.some h0
theorem lgood_F {rate one : Int} {two : List Int} (hr : rate = 8000 ∨ rate = 16000) (h0 : 0 ≤ one) (h1 : one ≤ 15) (h2 : two.length = ord14 rate) (h3 : ∀ x ∈ two, -4 ≤ x ∧ x ≤ 4) (hN : 30000 ≤ N) : Rc.lgood.F N (ord14 rate : Int) one two = some true := by
  have ho := ord14_le rate
  have hu : ∃ u : Int, Rc.lunit.F N (ord14 rate : Int) = some u ∧ u ≠ 0 := by
    rcases hr with rfl | rfl
    · exact ⟨400, rfl, by decide⟩
    · exact ⟨250, rfl, by decide⟩
  obtain ⟨u, hu1, hu2⟩ := hu
  unfold Rc.lgood.F
  simp only [br_dec, br_bne, br_beq]
  have := lgood_loop (N := N) (e0 := (ord14 rate : Int)) (e1 := one) (e2 := two) (l := two) (by omega) false N 0 (by omega) (by omega)
  rw [show ((0 : Nat) : Int) = 0 from rfl, List.drop_zero] at this
  rw [hu1, obind_of, if_neg hu2, if_neg (by omega), if_neg (by omega), if_pos (by omega), this, if_pos h3, osum_inl]
theorem ldecode_T (hN : 30000 ≤ N) {rate one : Int} {two : List Int} (hr : rate = 8000 ∨ rate = 16000) (h0 : 0 ≤ one) (h1 : one ≤ 15) (h2 : two.length = ord14 rate) (h3 : ∀ x ∈ two, -4 ≤ x ∧ x ≤ 4) :
    Sat (Rc.ldecode.F N (ord14 rate : Int) one two) fun r => r.2.length = ord14 rate := by
  have ho := ord14_le rate
  have hu : ∃ u : Int, Rc.lunit.F N (ord14 rate : Int) = some u := by
    rcases hr with rfl | rfl
    · exact ⟨400, rfl⟩
    · exact ⟨250, rfl⟩
  obtain ⟨u, hu⟩ := hu
  unfold Rc.ldecode.F
  rw [lgood_F hr h0 h1 h2 h3 hN, obind_of, br_not, if_pos rfl]
  refine Sat.obind (tlsf_T hN hr h0 h1) fun r1 e1 => ?_
  rw [e1]
  refine Sat.obind (ldecode_loop hu h2 (by omega) N 0 r1 (Nat.zero_le _) e1 (by omega)) fun r2 e2 => ?_
  exact Sat.obind (lsteady_T hN (by omega)) fun r3 e3 => Sat.some (e3.trans e2)
theorem lbetween_loop {w : Int} {l1 : List Int} {len : Nat} (h1 : l1.length = len) (hl : len ≤ 1000) : ∀ (nn k : Nat) (l0 : List Int), k ≤ len → l0.length = len → len - k < nn → Sat (Rc.lbetween.loop5 N nn w (len : Int) l1 (k : Int) l0) fun r => r.length = len
  | 0, k, l0, _, _, h => by omega
  | nn + 1, k, l0, hk, h0, h => by
    unfold Rc.lbetween.loop5
    simp only [br_dec, chkI_same, chkL_same, chkN_same]
    by_cases c : k < len
    · rw [if_pos (by omega), chk_pos (by omega), chk_pos (by omega), chk_pos (by omega), chk_pos (by omega), i64 (x := (k : Int) + 1) (by omega) (by omega)]
      exact lbetween_loop h1 hl nn (k + 1) _ (by omega) (by rw [List.length_set]; exact h0) (by omega)
    · rw [if_neg (by omega)]; exact Sat.some h0
theorem lbetween_T (hN : 30000 ≤ N) {w : Int} {a b : List Int} (hab : a.length = b.length) (ha : a.length ≤ 64) (w0 : 0 ≤ w) (w1 : w ≤ 4) : Sat (Rc.lbetween.F N w a b) fun r => r.2.length = a.length := by
  unfold Rc.lbetween.F
  simp only [br_dec, br_bne]
  rw [if_pos (by omega), if_neg (by omega), if_neg (by omega), if_neg (by omega)]
  refine Sat.obind (lclamped_T hN (by omega)) fun r0 h0 => ?_
  refine Sat.obind (lclamped_T hN (by omega)) fun r1 h1 => ?_
  exact Sat.obind (lbetween_loop (len := r0.length) (by omega) (by omega) N 0 r0 (Nat.zero_le _) rfl (by omega)) fun r2 h2 => Sat.some (h2.trans h0.1)
end
end Go.Pl
/-
  Layer 14: a filter out of frequencies: that it comes to an end, and how great its numbers are.
  Conditions: none.
-/
namespace Go.Pl
open Go.Eng Go.Proofs
section
variable {N : Nat}
theorem lpoly_in {y : List Int} {k len : Nat} (hk : k < y.length) (hy : y.length + 1 = len) (hl : len ≤ 1000) : ∀ (nn j : Nat) (l0 : List Int), j ≤ k → l0.length = len → j < nn → Sat (Rc.lpoly.loop8 N nn (k : Int) y (j : Int) l0) fun r => r.length = len
  | 0, j, l0, _, _, h => by omega
  | nn + 1, j, l0, hj, h0, h => by
    unfold Rc.lpoly.loop8
    simp only [br_dec, chkI_same, chkL_same, chkN_same]
    by_cases c : 2 ≤ j
    · rw [if_pos (by omega), i64 (x := (j : Int) - 2) (by omega) (by omega), i64 (x := (j : Int) - 1) (by omega) (by omega), chk_pos (by omega), chk_pos (by omega), chk_pos (by omega), chk_pos (by omega)]
      refine Sat.obind (fmul_T (s := 16) _ _ (by omega) (by omega)) fun r _ => ?_
      rw [chk_pos (by omega), chk_pos (by omega), chk_pos (by omega), show (j : Int) - 1 = ((j - 1 : Nat) : Int) by omega]
      exact lpoly_in hk hy hl nn (j - 1) _ (by omega) (by rw [List.length_set]; exact h0) (by omega)
    · rw [if_neg (by omega)]; exact Sat.some h0
theorem lpoly_out (hN : 30000 ≤ N) {y : List Int} {len : Nat} (hy : y.length + 1 = len) (hl : len ≤ 1000) : ∀ (nn k : Nat) (l0 : List Int), 1 ≤ k → k ≤ y.length → l0.length = len → y.length - k < nn → Sat (Rc.lpoly.loop4 N nn y (k : Int) l0) fun r => r.length = len
  | 0, k, l0, _, _, _, h => by omega
  | nn + 1, k, l0, k1, hk, h0, h => by
    unfold Rc.lpoly.loop4
    simp only [br_dec, chkI_same, chkL_same, chkN_same]
    by_cases c : k < y.length
    · rw [if_pos (by omega), i64 (x := (k : Int) - 1) (by omega) (by omega), i64 (x := (k : Int) + 1) (by omega) (by omega), chk_pos (by omega), chk_pos (by omega), chk_pos (by omega)]
      refine Sat.obind (fmul_T (s := 16) _ _ (by omega) (by omega)) fun r _ => ?_
      rw [chk_pos (by omega), chk_pos (by omega)]
      refine Sat.obind (lpoly_in (k := k) c hy hl N k _ (Nat.le_refl _) (by rw [List.length_set]; exact h0) (by omega)) fun r1 h1 => ?_
      rw [chk_pos (by omega), chk_pos (by omega), chk_pos (by omega)]
      exact lpoly_out hN hy hl nn (k + 1) _ (by omega) (by omega) (by rw [List.length_set]; exact h1) (by omega)
    · rw [if_neg (by omega)]; exact Sat.some h0
theorem lpoly_T (hN : 30000 ≤ N) {y : List Int} (h0 : 1 ≤ y.length) (h1 : y.length ≤ 100) : Sat (Rc.lpoly.F N y) fun r => r.length = y.length + 1 := by
  unfold Rc.lpoly.F
  rw [i64 (x := (y.length : Int) + 1) (by omega) (by omega), chk_pos (by omega), chk_pos (by omega), show ((y.length : Int) + 1).toNat = y.length + 1 by omega, chk_pos (by rw [List.length_replicate]; omega), chk_pos (by rw [List.length_set, List.length_replicate]; omega)]
  exact Sat.obind (lpoly_out hN (len := y.length + 1) rfl (by omega) N 1 _ (Nat.le_refl _) h0 (by rw [List.length_set, List.length_set, List.length_replicate]) (by omega)) fun r h => Sat.some h
theorem lfrom_split (hN : 30000 ≤ N) {l : List Int} (hl : l.length ≤ 1000) : ∀ (nn k : Nat) (e o : List Int), k ≤ l.length → e.length = (k + 1) / 2 → o.length = k / 2 → l.length - k < nn → Sat (Rc.lfrom.loop5 N nn (l.length : Int) l (k : Int) e o) fun r => r.1.length = (l.length + 1) / 2 ∧ r.2.length = l.length / 2
  | 0, k, e, o, _, _, _, h => by omega
  | nn + 1, k, e, o, hk, he, ho, h => by
    unfold Rc.lfrom.loop5
    simp only [br_dec, br_beq, chkI_same, chkL_same, chkN_same]
    by_cases c : k < l.length
    · rw [if_pos (by omega), chk_pos (by omega), clamp_F (by omega), obind_of]
      refine Sat.obind (fcos_T hN _) fun r _ => ?_
      rw [tmod_emod (by omega), i64 (x := (k : Int) + 1) (by omega) (by omega)]
      by_cases d : k % 2 = 0
      · rw [if_pos (by omega), chk_pos (by simp; omega)]
        exact lfrom_split hN hl nn (k + 1) _ _ (by omega) (by simp; omega) (by omega) (by omega)
      · rw [if_neg (by omega), chk_pos (by simp; omega)]
        exact lfrom_split hN hl nn (k + 1) _ _ (by omega) (by omega) (by simp; omega) (by omega)
    · have hkl : k = l.length := by omega
      rw [if_neg (by omega), ← hkl]; exact Sat.some ⟨he, ho⟩
theorem lfrom_join {p q : List Int} {h n : Nat} (hp : p.length = h + 1) (hq : q.length = h + 1) (hn : n = 2 * h) (hl : n ≤ 1000) : ∀ (nn k : Nat) (l : List Int), k ≤ h → l.length = n → h - k < nn → Sat (Rc.lfrom.loop15 N nn (h : Int) p q (k : Int) l) fun r => r.length = n
  | 0, k, l, _, _, h => by omega
  | nn + 1, k, l, hk, h0, h' => by
    unfold Rc.lfrom.loop15
    simp only [br_dec, chkI_same, chkL_same, chkN_same]
    by_cases c : k < h
    · rw [if_pos (by omega), i64 (x := (k : Int) + 1) (by omega) (by omega), chk_pos (by omega), chk_pos (by omega), chk_pos (by omega), chk_pos (by omega)]
      refine Sat.obind (fmul_T (s := 5) _ _ (by omega) (by omega)) fun r _ => ?_
      rw [chk_pos (by omega)]
      refine Sat.obind (fmul_T (s := 5) _ _ (by omega) (by omega)) fun r1 _ => ?_
      simp only [List.length_set, h0]
      rw [i64 (x := (n : Int) - 1) (by omega) (by omega), i64 (x := (n : Int) - 1 - k) (by omega) (by omega), chk_pos (by omega)]
      exact lfrom_join hp hq hn hl nn (k + 1) _ (by omega) (by rw [List.length_set, List.length_set]; exact h0) (by omega)
    · rw [if_neg (by omega)]; exact Sat.some h0
theorem lstable_in {m n len : Nat} {r8 r7 : Int} {old : List Int} (ho : old.length = m) (hm : m ≤ len) (hl : len ≤ 1000) : ∀ (nn k : Nat) (l0 : List Int), k ≤ m → l0.length = len → m - k < nn → Sat (Rc.lstable.loop18 N nn (m : Int) r7 r8 (m : Int) old (k : Int) l0) fun r => r.length = len
  | 0, k, l0, _, _, h => by omega
  | nn + 1, k, l0, hk, h0, h => by
    unfold Rc.lstable.loop18
    simp only [br_dec, chkI_same, chkL_same, chkN_same]
    by_cases c : k < m
    · rw [if_pos (by omega), i64 (x := (m : Int) - 1) (by omega) (by omega), i64 (x := (m : Int) - 1 - k) (by omega) (by omega), chk_pos (by omega), chk_pos (by omega)]
      refine Sat.obind (fmul_T (s := 24) _ _ (by omega) (by omega)) fun r _ => ?_
      rw [chk_pos (by omega)]
      refine Sat.obind (fdiv_T (s := 24) _ _ (by omega)) fun r1 _ => ?_
      rw [clamp_F (by omega), obind_of, chk_pos (by omega), i64 (x := (k : Int) + 1) (by omega) (by omega)]
      exact lstable_in (n := n) ho hm hl nn (k + 1) _ (by omega) (by rw [List.length_set]; exact h0) (by omega)
    · rw [if_neg (by omega)]; exact Sat.some h0
theorem lstable_out (hN : 30000 ≤ N) {a : List Int} {s : Bool} {len : Nat} (hl : len ≤ 1000) : ∀ (nn k : Nat) (l0 : List Int), k ≤ len → l0.length = len → k < nn → Sat (Rc.lstable.loop10 N nn a ((k : Int) - 1) s l0) fun _ => True
  | 0, k, l0, _, _, h => by omega
  | nn + 1, 0, l0, hk, h0, h => by
    unfold Rc.lstable.loop10
    simp only [br_dec]
    rw [if_neg (by omega)]; exact Sat.some trivial
  | nn + 1, k + 1, l0, hk, h0, h => by
    unfold Rc.lstable.loop10
    simp only [br_dec]
    rw [show ((k + 1 : Nat) : Int) - 1 = (k : Int) by omega, if_pos (by omega), chk_pos (by omega)]
    split
    · exact ⟨_, rfl, trivial⟩
    split
    · exact ⟨_, rfl, trivial⟩
    refine Sat.obind (fmul_T (s := 24) _ _ (by omega) (by omega)) fun r _ => ?_
    simp only [Int.toNat_natCast, List.nil_append, List.drop_zero, Nat.sub_zero]
    rw [chk_pos (by omega), chk_pos (by rw [List.length_take]; omega)]
    refine Sat.obind (lstable_in (n := 0) (m := k) (len := len) (by rw [List.length_take]; omega) (by omega) hl N 0 l0 (Nat.zero_le _) h0 (by omega)) fun r1 h1 => ?_
    rw [i64 (x := (k : Int) - 1) (by omega) (by omega)]
    exact lstable_out hN hl nn k r1 (by omega) h1 (by omega)
theorem lstable_T (hN : 30000 ≤ N) {a : List Int} (ha : a.length ≤ 32) : Sat (Rc.lstable.F N a) fun _ => True := by
  unfold Rc.lstable.F
  simp only [br_dec]
  rw [if_neg (by omega), chk_pos (by omega), Int.toNat_natCast]
  refine Sat.obind (lstable_loop5_T (N := N) (l := a) (by omega) N 0 (List.replicate a.length 0) (Nat.zero_le _) (by simp) (by omega) (fun x hx => by simp at hx)) fun r0 h0 => ?_
  rw [i64 (x := (r0.length : Int) - 1) (by omega) (by omega)]
  obtain ⟨v, h1, _⟩ := lstable_out (N := N) (a := a) (s := false) hN (len := r0.length) (by omega) N r0.length r0 (Nat.le_refl _) rfl (by omega)
  rw [h1]
  cases v with
  | inl x => exact ⟨_, rfl, trivial⟩
  | inr x => exact ⟨_, rfl, trivial⟩
theorem lchirp_pow {c : Int} (hc : 0 ≤ c ∧ c ≤ 65536) {M : Int} (hM : 0 ≤ M ∧ M ≤ 131072) {n : Nat} (hn : n ≤ 1000) : ∀ (nn k : Nat) (v : Int), k ≤ n → -M ≤ v ∧ v ≤ M → n - k < nn → Sat (Rc.lchirp.loop9 N nn c (n : Int) v (k : Int)) fun r => -M ≤ r ∧ r ≤ M
  | 0, k, v, _, _, h => by omega
  | nn + 1, k, v, hk, hv, h => by
    unfold Rc.lchirp.loop9
    simp only [br_dec, chkI_same]
    by_cases d : k < n
    · have e : Rc.fmul.F N v c 16 = some (ml v c 16) := fmul_F (s := 16) (by omega) (by omega) v c
      rw [if_pos (by omega), e, obind_of, i64 (x := (k : Int) + 1) (by omega) (by omega)]
      exact lchirp_pow hc hM hn nn (k + 1) _ (by omega) (ml_part hM hv hc) (by omega)
    · rw [if_neg (by omega)]; exact Sat.some hv
theorem lchirp_loop (hN : 30000 ≤ N) {c : Int} (hc : 0 ≤ c ∧ c ≤ 65536) {M : Int} (hM : 0 ≤ M ∧ M ≤ 131072) {l : List Int} (hl : l.length ≤ 100) (hx : ∀ x ∈ l, -M ≤ x ∧ x ≤ M) : ∀ (nn k : Nat) (l0 : List Int), k ≤ l.length → l0.length = l.length → l.length - k < nn → (∀ x ∈ l0.take k, -M ≤ x ∧ x ≤ M) →
    Sat (Rc.lchirp.loop6 N nn c (l.length : Int) l (k : Int) l0) fun r => r.length = l.length ∧ ∀ x ∈ r, -M ≤ x ∧ x ≤ M
  | 0, k, l0, _, _, h, _ => by omega
  | nn + 1, k, l0, hk, h0, h, hy => by
    unfold Rc.lchirp.loop6
    simp only [br_dec, chkI_same, chkL_same]
    by_cases d : k < l.length
    · have hv : -M ≤ l.getD k 0 ∧ l.getD k 0 ≤ M := by
        rw [List.getD_eq_getElem?_getD, List.getElem?_eq_getElem d]
        exact hx _ (List.getElem_mem d)
      rw [if_pos (by omega), chk_pos (by omega), i64 (x := (k : Int) + 1) (by omega) (by omega), Int.toNat_natCast]
      refine Sat.obind (lchirp_pow (n := k + 1) hc hM (by omega) N 0 _ (Nat.zero_le _) hv (by omega)) fun r hr => ?_
      rw [chk_pos (by omega)]
      refine lchirp_loop hN hc hM hl hx nn (k + 1) _ (by omega) (by simpa using h0) (by omega) fun x hx' => ?_
      rw [List.take_add_one, List.take_set_of_le (by omega), List.getElem?_set_self (by omega)] at hx'
      rcases List.mem_append.1 hx' with h1 | h1
      · exact hy x h1
      · simp only [Option.toList_some, List.mem_singleton] at h1
        rw [h1]; exact hr
    · rw [if_neg (by omega)]
      exact Sat.some ⟨h0, fun x hx' => hy x (by rwa [List.take_of_length_le (by omega)])⟩
theorem lchirp_T (hN : 30000 ≤ N) (c : Int) {M : Int} (hM : 0 ≤ M ∧ M ≤ 131072) {l : List Int} (hl : l.length ≤ 32) (hx : ∀ x ∈ l, -M ≤ x ∧ x ≤ M) : Sat (Rc.lchirp.F N c l) fun r => r.length = l.length ∧ ∀ x ∈ r, -M ≤ x ∧ x ≤ M := by
  unfold Rc.lchirp.F
  simp only [br_dec]
  rw [if_neg (by omega), clamp_F (by omega), obind_of, chk_pos (by omega), Int.toNat_natCast]
  exact Sat.obind (lchirp_loop hN (clp_range (by omega) c) hM (by omega) hx N 0 (List.replicate l.length 0) (Nat.zero_le _) (by simp) (by omega) (fun x hx => by simp at hx)) fun r h => Sat.some h
theorem lfit_loop (hN : 30000 ≤ N) {len : Nat} (hl : len ≤ 32) : ∀ (nn k : Nat) (l0 : List Int), k ≤ 17 → l0.length = len → (∀ x ∈ l0, -131072 ≤ x ∧ x ≤ 131072) → 17 - k < nn → Sat (Rc.lfit.loop10 N nn (k : Int) l0) fun r => r.length = len ∧ ∀ x ∈ r, -131072 ≤ x ∧ x ≤ 131072
  | 0, k, l0, _, _, _, h => by omega
  | nn + 1, k, l0, hk, h0, hx, h => by
    unfold Rc.lfit.loop10
    simp only [br_dec]
    by_cases d : k ≤ 16
    · rw [if_pos (by omega)]
      refine Sat.obind (lstable_T hN (by omega)) fun r _ => ?_
      refine Sat.br (fun _ => ?_) fun _ => Sat.some ⟨h0, hx⟩
      refine Sat.obind (lchirp_T hN _ (M := 131072) (by omega) (by omega) hx) fun r1 h1 => ?_
      rw [i64 (x := (k : Int) + 1) (by omega) (by omega)]
      exact lfit_loop hN hl nn (k + 1) r1 (by omega) (h1.1.trans h0) h1.2 (by omega)
    · rw [if_neg (by omega)]; exact Sat.some ⟨h0, hx⟩
theorem lfit_T (hN : 30000 ≤ N) {a : List Int} (ha : a.length ≤ 32) : Sat (Rc.lfit.F N a) fun r => r.length = a.length ∧ ∀ x ∈ r, -131072 ≤ x ∧ x ≤ 131072 := by
  unfold Rc.lfit.F
  simp only [br_dec]
  rw [if_neg (by omega), chk_pos (by omega), Int.toNat_natCast]
  refine Sat.obind (lfit_loop5_T (N := N) (l := a) (by omega) N 0 (List.replicate a.length 0) (Nat.zero_le _) (by simp) (by omega) (fun x hx => by simp at hx)) fun r0 h0 => ?_
  refine Sat.obind (lfit_loop hN (len := a.length) ha N 1 r0 (by omega) h0.1 h0.2 (by omega)) fun r1 h1 => ?_
  refine Sat.obind (lstable_T hN (by omega)) fun r2 _ => ?_
  refine Sat.br (fun _ => Sat.some ⟨by rw [List.length_replicate]; exact h1.1, fun x hx => ?_⟩) fun _ => Sat.some h1
  rw [List.eq_of_mem_replicate hx]; omega
theorem lfrom_T (hN : 30000 ≤ N) {l : List Int} (hl : l.length = 10 ∨ l.length = 16) : Sat (Rc.lfrom.F N l) fun r => r.2.length = l.length ∧ ∀ x ∈ r.2, -131072 ≤ x ∧ x ≤ 131072 := by
  have main : Sat (obind (Rc.lfrom.loop5 N N (l.length : Int) l 0 [] []) fun r0 => obind (Rc.lpoly.F N r0.1) fun r1 => obind (Rc.lpoly.F N r0.2) fun r2 => chk (0 ≤ (l.length : Int) ∧ (l.length : Int) ≤ (l.length : Int) ∧ (l.length : Int) ≤ ((17592186043904 : Nat) : Int))
      (obind (Rc.lfrom.loop15 N N (r0.1.length : Int) r1 r2 0 (List.replicate (l.length : Int).toNat 0)) fun r3 => obind (Rc.lfit.F N r3) fun r4 => some ((0 : Int), r4))) fun r => r.2.length = l.length ∧ ∀ x ∈ r.2, -131072 ≤ x ∧ x ≤ 131072 := by
    refine Sat.obind (lfrom_split hN (by omega) N 0 [] [] (Nat.zero_le _) rfl rfl (by omega)) fun r0 h0 => ?_
    refine Sat.obind (lpoly_T hN (by omega) (by omega)) fun r1 h1 => ?_
    refine Sat.obind (lpoly_T hN (by omega) (by omega)) fun r2 h2 => ?_
    rw [chk_pos (by omega), Int.toNat_natCast]
    refine Sat.obind (lfrom_join (h := r0.1.length) (n := l.length) h1 (by omega) (by omega) (by omega) N 0 (List.replicate l.length 0) (Nat.zero_le _) (by simp) (by omega)) fun r3 h3 => ?_
    exact Sat.obind (lfit_T hN (by omega)) fun r4 h4 => Sat.some ⟨h4.1.trans h3, h4.2⟩
  unfold Rc.lfrom.F
  simp only [br_bne]
  by_cases c : (l.length : Int) = 10
  · rw [if_pos c]; exact main
  · rw [if_neg c, if_pos (by omega)]; exact main
end
end Go.Pl
/-
  Layer 14: a voice's memory, sample by sample.
  Conditions: none.
-/
namespace Go.Pl
open Go.Eng Go.Proofs
abbrev shA (v : List Int) : List Int := List.take 1 v ++ (List.take 319 (List.take 320 (List.drop 0 v)) ++ List.drop (1 + min (List.take 320 (List.drop 0 v)).length 319) v)
abbrev shB (A : List Int) : List Int := List.take 321 A ++ (List.take 31 (List.take 32 (List.drop 320 A)) ++ List.drop (321 + min (List.take 32 (List.drop 320 A)).length 31) A)
def sh14 (v : List Int) (r o : Int) : List Int := (r :: v.take 319) ++ (o :: (v.drop 320).take 31)
theorem shA_eq {v : List Int} (hv : v.length = 352) : shA v = v.take 1 ++ (v.take 319 ++ v.drop 320) := by
  unfold shA
  rw [List.drop_zero, List.take_take, List.length_take, hv]
  rfl
theorem shA_len {v : List Int} (hv : v.length = 352) : (shA v).length = 352 := by
  rw [shA_eq hv]
  simp only [List.length_append, List.length_take, List.length_drop, hv]
  rfl
theorem shB_eq {A : List Int} (hA : A.length = 352) : shB A = A.take 321 ++ (A.drop 320).take 31 := by
  unfold shB
  rw [List.take_take, List.length_take, List.length_drop, hA, show 321 + min (min 32 (352 - 320)) 31 = 352 from rfl, show List.drop 352 A = [] from List.drop_eq_nil_of_le (by omega), List.append_nil]
  rfl
theorem shB_len {A : List Int} (hA : A.length = 352) : (shB A).length = 352 := by
  rw [shB_eq hA]
  simp only [List.length_append, List.length_take, List.length_drop, hA]
  rfl
theorem sh14_len {v : List Int} (hv : v.length = 352) (r o : Int) : (sh14 v r o).length = 352 := by
  unfold sh14
  simp only [List.length_append, List.length_cons, List.length_take, List.length_drop, hv]
  rfl
theorem sh_eq {v : List Int} (hv : v.length = 352) (r o : Int) : ((shB (shA v)).set 0 r).set 320 o = sh14 v r o := by
  have hA := shA_len hv
  have hB := shB_len hA
  obtain ⟨a, X, Y, rfl, hX, hY⟩ : ∃ a X Y, v = (a :: X) ++ Y ∧ X.length = 319 ∧ Y.length = 32 := by
    match v, hv with
    | a :: t, hv =>
      simp only [List.length_cons] at hv
      exact ⟨a, t.take 319, t.drop 319, by rw [List.cons_append, List.take_append_drop], by rw [List.length_take]; omega, by rw [List.length_drop]; omega⟩
  have e319 : List.take 319 ((a :: X) ++ Y) = a :: X.take 318 := by
    rw [List.take_append_of_le_length (by simp [hX])]; rfl
  have e320 : List.drop 320 ((a :: X) ++ Y) = Y := by
    rw [List.drop_append_of_le_length (by simp [hX]), List.drop_eq_nil_of_le (by simp [hX])]; rfl
  have e1 : List.take 1 ((a :: X) ++ Y) = [a] := rfl
  have hAe : shA ((a :: X) ++ Y) = (a :: a :: X.take 318) ++ Y := by rw [shA_eq hv, e1, e319, e320]; rfl
  have l1 : (a :: a :: X.take 318).length = 320 := by simp [hX]
  have f320 : List.drop 320 ((a :: a :: X.take 318) ++ Y) = Y := by
    rw [List.drop_append_of_le_length (by omega), List.drop_eq_nil_of_le (by omega)]; rfl
  have f321 : List.take 321 ((a :: a :: X.take 318) ++ Y) = (a :: a :: X.take 318) ++ Y.take 1 := by
    rw [List.take_append, List.take_of_length_le (by omega), l1]
  unfold sh14
  rw [shB_eq hA, hAe, f320, f321, e319, e320, List.append_assoc]
  match Y, hY with
  | y :: Y, hY =>
    have e9 : ((a :: a :: X.take 318) ++ (List.take 1 (y :: Y) ++ List.take 31 (y :: Y))).set 0 r = (r :: a :: X.take 318) ++ (y :: (y :: Y).take 31) := rfl
    rw [e9, List.set_append, if_neg (by simp [hX])]
    have : 320 - (r :: a :: X.take 318).length = 0 := by simp [hX]
    rw [this]
    rfl
section
variable {N : Nat}
theorem sykept_F (v : Int) : Rc.sykept.F N v = some (clp (-16777216) 16777216 v) := by
  unfold Rc.sykept.F
  rw [clamp_F (by omega), obind_of]
theorem within1_F {v most : Int} (m0 : 0 ≤ most) (m1 : most ≤ 1000000) : Rc.within1.F N v most = some (decide (v < -most ∨ v > most)) := by
  unfold Rc.within1.F
  simp only [br_dec, chkI_same]
  rw [i64 (x := 0 - most) (by omega) (by omega)]
  by_cases h : v < 0 - most
  · rw [if_pos h, decide_eq_true (Or.inl (by omega))]
  · rw [if_neg h]
    congr 1
    by_cases h2 : v > most
    · rw [decide_eq_true h2, decide_eq_true (Or.inr h2)]
    · rw [decide_eq_false h2, decide_eq_false (by omega)]
theorem indexf64_loop {em most : Int} {el l : List Int} (m0 : 0 ≤ most) (m1 : most ≤ 1000000) (hl : l.length ≤ 1000000) (hx : ∀ x ∈ l, -most ≤ x ∧ x ≤ most) (s : Int) : ∀ (nn k : Nat), k ≤ l.length → l.length - k < nn → Rc.indexf64.loop2 N nn em el (l.length : Int) most l s (k : Int) = some (.inl s)
  | 0, k, _, h => by omega
  | nn + 1, k, hk, h => by
    unfold Rc.indexf64.loop2
    simp only [br_dec, chkI_same, chkL_same]
    by_cases c : k < l.length
    · have hv := hx (l.getD k 0) (by rw [List.getD_eq_getElem?_getD, List.getElem?_eq_getElem c]; exact List.getElem_mem c)
      rw [if_pos (by omega), chk_pos (by omega), within1_F m0 m1, obind_of, Int.toNat_natCast, decide_eq_false (by omega), br_false, i64 (x := (k : Int) + 1) (by omega) (by omega)]
      exact indexf64_loop m0 m1 hl hx s nn (k + 1) (by omega) (by omega)
    · rw [if_neg (by omega)]
theorem within_F {most : Int} {l : List Int} (m0 : 0 ≤ most) (m1 : most ≤ 1000000) (hl : l.length ≤ 1000) (hN : 30000 ≤ N) (hx : ∀ x ∈ l, -most ≤ x ∧ x ≤ most) : Rc.within.F N most l = some true := by
  unfold Rc.within.F Rc.contains64.F Rc.indexf64.F
  have := indexf64_loop (N := N) (em := most) (el := l) m0 m1 (by omega) hx 0 N 0 (Nat.zero_le _) (by omega)
  rw [show ((0 : Nat) : Int) = 0 from rfl] at this
  rw [this]
  rfl
structure GoodP (loud lag t0 t1 t2 t3 t4 : Int) (pulses filter : List Int) : Prop where
  n0 : 1 ≤ pulses.length
  n1 : pulses.length ≤ 480
  p : ∀ x ∈ pulses, -16 ≤ x ∧ x ≤ 16
  l0 : 0 ≤ loud
  l1 : loud ≤ 262144
  lag : lag = 0 ∨ 3 ≤ lag ∧ lag ≤ 318
  t0 : -128 ≤ t0 ∧ t0 ≤ 128
  t1 : -128 ≤ t1 ∧ t1 ≤ 128
  t2 : -128 ≤ t2 ∧ t2 ≤ 128
  t3 : -128 ≤ t3 ∧ t3 ≤ 128
  t4 : -128 ≤ t4 ∧ t4 ≤ 128
  f : filter.length ≤ 32
  fx : ∀ x ∈ filter, -131072 ≤ x ∧ x ≤ 131072
theorem sygood_F (hN : 30000 ≤ N) {loud lag t0 t1 t2 t3 t4 : Int} {pulses filter : List Int} (h : GoodP loud lag t0 t1 t2 t3 t4 pulses filter) : Rc.sygood.F N loud lag t0 t1 t2 t3 t4 pulses filter = some true := by
  have w : ∀ {t : Int}, -128 ≤ t ∧ t ≤ 128 → Rc.within1.F N t 128 = some false := fun {t} ht => by rw [within1_F (by omega) (by omega), decide_eq_false (by omega)]
  have h0 := h.n0
  have h1 := h.n1
  have hl0 := h.l0
  have hl1 := h.l1
  have hf := h.f
  unfold Rc.sygood.F
  simp only [br_dec, br_beq]
  rw [if_neg (by omega), if_neg (by omega), within_F (by omega) (by omega) (by omega) hN h.p, obind_of, br_not, if_pos rfl, if_neg (by omega), if_neg (by omega)]
  simp only [w h.t0, w h.t1, w h.t2, w h.t3, w h.t4, obind_of, br_false]
  have fin : (if (filter.length : Int) ≤ 32 then obind (Rc.within.F N 131072 filter) fun r12 => some r12 else some false) = some true := by
    rw [if_pos (by omega), within_F (by omega) (by omega) (by omega) hN h.fx, obind_of]
  rcases h.lag with rfl | ⟨a, b⟩
  · rw [if_pos rfl]; exact fin
  · rw [if_neg (by omega), if_pos (by omega), if_pos (by omega)]; exact fin
end
end Go.Pl
/-
  Layer 14: a part is played: what it comes to.
  Conditions: none.
-/
namespace Go.Pl
open Go.Eng Go.Proofs
def tap14 (ts v : List Int) (lag : Int) : Nat → Nat → Int → Int
  | 0, _, acc => acc
  | n + 1, j, acc => tap14 ts v lag n (j + 1) (IntKind.i64.wrap (acc + ml (ts.getD j 0) (v.getD (lag - 3 + j).toNat 0) 7))
def fil14 (a v : List Int) : Nat → Nat → Int → Int
  | 0, _, acc => acc
  | n + 1, k, acc => fil14 a v n (k + 1) (IntKind.i64.wrap (acc + ml (a.getD k 0) (v.getD (320 + k) 0) 12))
def kp (v : Int) : Int := clp (-16777216) 16777216 v
def drv14 (loud lag : Int) (ts : List Int) (n : Int) (v : List Int) : Int :=
  kp (if lag > 0 then tap14 ts v lag 5 0 (IntKind.i64.wrap (n * loud)) else IntKind.i64.wrap (n * loud))
def out14 (a v : List Int) (r : Int) : Int := kp (fil14 a v a.length 0 r)
def run14 (loud lag : Int) (ts a : List Int) : List Int → List Int → List Int → List Int × List Int
  | [], v, o => (v, o)
  | n :: ps, v, o => run14 loud lag ts a ps (sh14 v (drv14 loud lag ts n v) (out14 a v (drv14 loud lag ts n v))) (o ++ [out14 a v (drv14 loud lag ts n v)])
section
variable {N : Nat}
theorem tap_loop {t0 t1 t2 t3 t4 loud lag : Int} {v pulses filter : List Int} (hv : v.length = 352) (g0 : 3 ≤ lag) (g1 : lag ≤ 318) : ∀ (nn n j : Nat) (acc : Int), j + n = 5 → n < nn →
    Rc.syrun.loop10 N nn t0 t1 t2 t3 t4 loud lag t0 t1 t2 t3 t4 v pulses filter acc (j : Int) = some (tap14 [t0, t1, t2, t3, t4] v lag n j acc)
  | 0, n, j, acc, _, h => by omega
  | nn + 1, 0, j, acc, hj, _ => by
    unfold Rc.syrun.loop10
    simp only [br_dec, chkI_same, chkL_same]
    rw [if_neg (by omega)]
    rfl
  | nn + 1, n + 1, j, acc, hj, h => by
    unfold Rc.syrun.loop10
    simp only [br_dec, chkI_same, chkL_same]
    rw [if_pos (by omega), chk_pos (by omega), i64 (x := lag - 3) (by omega) (by omega), i64 (x := lag - 3 + j) (by omega) (by omega), chk_pos (by omega)]
    have e : ∀ x y, Rc.fmul.F N x y 7 = some (ml x y 7) := fun x y => fmul_F (s := 7) (by omega) (by omega) x y
    rw [e, obind_of, i64 (x := (j : Int) + 1) (by omega) (by omega), Int.toNat_natCast, Nat.zero_add]
    exact tap_loop hv g0 g1 nn n (j + 1) _ (by omega) (by omega)
theorem fil_loop {a v : List Int} (hv : v.length = 352) (ha : a.length ≤ 32) : ∀ (nn n k : Nat) (acc : Int), k + n = a.length → n < nn →
    Rc.syrun.loop17 N nn (a.length : Int) a v acc (k : Int) = some (fil14 a v n k acc)
  | 0, n, k, acc, _, h => by omega
  | nn + 1, 0, k, acc, hk, _ => by
    unfold Rc.syrun.loop17
    simp only [br_dec, chkI_same, chkL_same]
    rw [if_neg (by omega)]
    rfl
  | nn + 1, n + 1, k, acc, hk, h => by
    unfold Rc.syrun.loop17
    simp only [br_dec, chkI_same, chkL_same]
    have e : ∀ x y, Rc.fmul.F N x y 12 = some (ml x y 12) := fun x y => fmul_F (s := 12) (by omega) (by omega) x y
    rw [if_pos (by omega), chk_pos (by omega), chk_pos (by omega), e, obind_of, i64 (x := (k : Int) + 1) (by omega) (by omega), Int.toNat_natCast]
    exact fil_loop hv ha nn n (k + 1) _ (by omega) (by omega)
theorem run_loop (hN : 30000 ≤ N) {loud lag t0 t1 t2 t3 t4 : Int} {pulses filter : List Int} (hp : pulses.length ≤ 480) (hlag : lag = 0 ∨ 3 ≤ lag ∧ lag ≤ 318) (hf : filter.length ≤ 32) : ∀ (nn k : Nat) (v o : List Int), k ≤ pulses.length → v.length = 352 → o.length = k → pulses.length - k < nn →
    Rc.syrun.loop5 N nn (pulses.length : Int) loud lag t0 t1 t2 t3 t4 pulses pulses filter (k : Int) v o = some (run14 loud lag [t0, t1, t2, t3, t4] filter (pulses.drop k) v o)
  | 0, k, v, o, _, _, _, h => by omega
  | nn + 1, k, v, o, hk, hv, ho, h => by
    unfold Rc.syrun.loop5
    simp only [br_dec, chkI_same, chkL_same]
    by_cases c : k < pulses.length
    · have hA := shA_len hv
      have hB := shB_len hA
      have hS := sh14_len hv
      rw [if_pos (by omega), chk_pos (by omega), drop_cons c]
      have ih := run_loop (loud := loud) (lag := lag) (t0 := t0) (t1 := t1) (t2 := t2) (t3 := t3) (t4 := t4) hN hp hlag hf nn (k + 1) (sh14 v (drv14 loud lag [t0, t1, t2, t3, t4] (pulses.getD k 0) v) (out14 filter v (drv14 loud lag [t0, t1, t2, t3, t4] (pulses.getD k 0) v))) (o ++ [out14 filter v (drv14 loud lag [t0, t1, t2, t3, t4] (pulses.getD k 0) v)]) (by omega) (hS _ _) (by simp; omega) (by omega)
      rw [← sh_eq hv] at ih
      simp only [run14]
      rw [← sh_eq hv]
      have c1 : 320 ≤ v.length := by omega
      have c2 : 352 ≤ (shA v).length := by omega
      have c3 : ((0 : Int) ≤ 0 ∧ (0 : Int) < ((320 : Nat) : Int)) ∧ 320 ≤ (shB (shA v)).length := by omega
      have c4 : ∀ r : Int, ((0 : Int) ≤ 0 ∧ (0 : Int) < ((32 : Nat) : Int)) ∧ 352 ≤ ((shB (shA v)).set 0 r).length := fun r => by rw [List.length_set]; omega
      rw [Int.toNat_natCast, i64 (x := (k : Int) + 1) (by omega) (by omega)]
      by_cases g : lag > 0
      · have hd : drv14 loud lag [t0, t1, t2, t3, t4] (pulses.getD k 0) v = kp (tap14 [t0, t1, t2, t3, t4] v lag 5 0 (IntKind.i64.wrap (pulses.getD k 0 * loud))) := by unfold drv14; rw [if_pos g]
        rw [if_pos g]
        refine obind_step (tap_loop hv (by omega) (by omega) N 5 0 _ rfl (by omega)) ?_
        refine obind_step (sykept_F _) ?_
        refine obind_step (fil_loop hv hf N filter.length 0 _ (by omega) (by omega)) ?_
        refine obind_step (sykept_F _) ?_
        rw [hd] at ih ⊢
        rw [chk_pos c1, chk_pos c1, chk_pos c1, chk_pos c2, chk_pos c2, chk_pos c2, chk_pos c3]
        refine (chk_pos (c4 _) _).trans ?_
        rw [chk_pos (by simp; omega)]
        exact ih
      · have hd : drv14 loud lag [t0, t1, t2, t3, t4] (pulses.getD k 0) v = kp (IntKind.i64.wrap (pulses.getD k 0 * loud)) := by unfold drv14; rw [if_neg g]
        rw [if_neg g]
        refine obind_step (sykept_F _) ?_
        refine obind_step (fil_loop hv hf N filter.length 0 _ (by omega) (by omega)) ?_
        refine obind_step (sykept_F _) ?_
        rw [hd] at ih ⊢
        rw [chk_pos c1, chk_pos c1, chk_pos c1, chk_pos c2, chk_pos c2, chk_pos c2, chk_pos c3]
        refine (chk_pos (c4 _) _).trans ?_
        rw [chk_pos (by simp; omega)]
        exact ih
    · rw [if_neg (by omega), List.drop_eq_nil_of_le (by omega)]
      rfl
theorem syrun_F (hN : 30000 ≤ N) {loud lag t0 t1 t2 t3 t4 : Int} {pulses filter v : List Int} (h : GoodP loud lag t0 t1 t2 t3 t4 pulses filter) (hv : v.length = 352) :
    Rc.syrun.F N loud lag t0 t1 t2 t3 t4 pulses filter v = some (0, run14 loud lag [t0, t1, t2, t3, t4] filter pulses v []) := by
  have h0 := h.n0
  have h1 := h.n1
  unfold Rc.syrun.F
  rw [sygood_F hN h, obind_of, br_not, if_pos rfl, chk_pos (by omega)]
  refine obind_step (run_loop hN h.n1 h.lag h.f N 0 v [] (Nat.zero_le _) hv rfl (by omega)) ?_
  rw [List.drop_zero]
theorem kp_zero : kp 0 = 0 := by decide
theorem zeros_getD (n k : Nat) : (List.replicate n (0 : Int)).getD k 0 = 0 := by
  rw [List.getD_eq_getElem?_getD, List.getElem?_replicate]
  split <;> rfl
theorem fil_zero (a : List Int) : ∀ (n k : Nat), fil14 a (List.replicate 352 0) n k 0 = 0
  | 0, k => rfl
  | n + 1, k => by
    simp only [fil14]
    rw [zeros_getD, ml_zero_right _ (by omega)]
    exact fil_zero a n (k + 1)
theorem run_zero (loud : Int) (ts a : List Int) : ∀ (n : Nat) (o : List Int), run14 loud 0 ts a (List.replicate n 0) (List.replicate 352 0) o = (List.replicate 352 0, o ++ List.replicate n 0)
  | 0, o => by
    rw [show List.replicate 0 (0 : Int) = [] from rfl, List.append_nil]
    rfl
  | n + 1, o => by
    have hd : drv14 loud 0 ts 0 (List.replicate 352 0) = 0 := by
      unfold drv14
      rw [if_neg (by omega), Int.zero_mul]
      decide
    have ho : out14 a (List.replicate 352 0) 0 = 0 := by
      unfold out14
      rw [fil_zero]
      exact kp_zero
    rw [show List.replicate (n + 1) (0 : Int) = 0 :: List.replicate n 0 from rfl]
    simp only [run14]
    rw [hd, ho, show sh14 (List.replicate 352 0) 0 0 = List.replicate 352 0 from by decide +kernel, run_zero loud ts a n (o ++ [0]), List.append_assoc]
    rfl
end
end Go.Pl
