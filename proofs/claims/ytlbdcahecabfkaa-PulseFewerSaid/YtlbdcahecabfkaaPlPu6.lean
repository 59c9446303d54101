/-
  Layer 9: the heap of places, greatest pulse first, the later of equals first.
  Conditions: none.
-/
import Derived.Test.YtlbdcahecabfkaaPlPu5
set_option linter.unusedSimpArgs false
set_option linter.unusedVariables false
namespace Go.Pl
open Go.Eng Go.Proofs
def Hp (g : Nat → Int) (n : Nat) : Prop := ∀ i, 0 < i → i < n → g i ≤ g ((i - 1) / 2)
structure UpI (g : Nat → Int) (j n : Nat) : Prop where
  a : ∀ i, 0 < i → i < n → i ≠ j → g i ≤ g ((i - 1) / 2)
  b : 0 < j → ∀ i, 0 < i → i < n → (i - 1) / 2 = j → g i ≤ g ((j - 1) / 2)
structure DnI (g : Nat → Int) (s n : Nat) : Prop where
  a : ∀ i, 0 < i → i < n → (i - 1) / 2 ≠ s → g i ≤ g ((i - 1) / 2)
  b : 0 < s → ∀ i, 0 < i → i < n → (i - 1) / 2 = s → g i ≤ g ((s - 1) / 2)
def swf {X : Type} (g : Nat → X) (i j : Nat) : Nat → X := fun k => if k = j then g i else if k = i then g j else g k
theorem Hp.top {g : Nat → Int} {n : Nat} (h : Hp g n) : ∀ i, i < n → g i ≤ g 0 := by
  intro i
  induction i using Nat.strongRecOn with
  | ind i ih =>
    intro hi
    by_cases c : i = 0
    · rw [c]; exact Int.le_refl _
    · have h1 := h i (by omega) hi
      have h2 := ih ((i - 1) / 2) (by omega) (by omega)
      omega
theorem UpI.done {g : Nat → Int} {j n : Nat} (h : UpI g j n) (hj : 0 < j → g j ≤ g ((j - 1) / 2)) : Hp g n := by
  intro i h0 h1
  by_cases c : i = j
  · subst c; exact hj h0
  · exact h.a i h0 h1 c
theorem UpI.step {g : Nat → Int} {j n : Nat} (h : UpI g j n) (j0 : 0 < j) (hj : j < n) (hl : g ((j - 1) / 2) < g j) : UpI (swf g ((j - 1) / 2) j) ((j - 1) / 2) n := by
  refine ⟨fun i h0 h1 hp => ?_, fun hp i h0 h1 hi => ?_⟩
  · unfold swf
    by_cases c : i = j
    · rw [if_pos c, c, if_neg (by omega), if_pos rfl]; omega
    · rw [if_neg c, if_neg hp]
      have ha := h.a i h0 h1 c
      by_cases d : (i - 1) / 2 = j
      · rw [if_pos d]; exact h.b j0 i h0 h1 d
      · rw [if_neg d]
        by_cases e : (i - 1) / 2 = (j - 1) / 2
        · rw [if_pos e]; rw [e] at ha; omega
        · rw [if_neg e]; exact ha
  · have hpp := h.a ((j - 1) / 2) hp (by omega) (by omega)
    unfold swf
    rw [if_neg (show ¬ ((j - 1) / 2 - 1) / 2 = j by omega), if_neg (show ¬ ((j - 1) / 2 - 1) / 2 = (j - 1) / 2 by omega)]
    by_cases c : i = j
    · rw [if_pos c]; exact hpp
    · have ha := h.a i h0 h1 c
      rw [hi] at ha
      rw [if_neg c, if_neg (by omega)]
      omega
theorem DnI.done {g : Nat → Int} {s n : Nat} (h : DnI g s n) (hs : ∀ i, 0 < i → i < n → (i - 1) / 2 = s → g i ≤ g s) : Hp g n := by
  intro i h0 h1
  by_cases c : (i - 1) / 2 = s
  · rw [c]; exact hs i h0 h1 c
  · exact h.a i h0 h1 c
theorem DnI.step {g : Nat → Int} {s c n : Nat} (h : DnI g s n) (hc : c < n) (c0 : 0 < c) (hp : (c - 1) / 2 = s) (hl : g s < g c) (ho : ∀ i, 0 < i → i < n → (i - 1) / 2 = s → g i ≤ g c) : DnI (swf g s c) c n := by
  refine ⟨fun i h0 h1 hi => ?_, fun _ i h0 h1 hi => ?_⟩
  · unfold swf
    rw [if_neg hi]
    by_cases d : i = c
    · rw [if_pos d, d, hp, if_pos rfl]; omega
    · rw [if_neg d]
      by_cases e : i = s
      · rw [if_pos e, e]
        rw [if_neg (by omega)]
        exact h.b (by omega) c c0 hc hp
      · rw [if_neg e]
        by_cases k : (i - 1) / 2 = s
        · rw [if_pos k]; exact ho i h0 h1 k
        · rw [if_neg k]; exact h.a i h0 h1 k
  · have ha := h.a i h0 h1 (by omega)
    rw [hi] at ha
    unfold swf
    rw [if_neg (by omega), if_neg (by omega), hp, if_neg (by omega), if_pos rfl]
    exact ha
def sw (a : List Int) (i j : Nat) : List Int := (a.set i (a.getD j 0)).set j (a.getD i 0)
theorem sw_get {a : List Int} {i j : Nat} (hi : i < a.length) (hj : j < a.length) (k : Nat) : (sw a i j).getD k 0 = swf (fun k => a.getD k 0) i j k := by
  unfold sw swf
  rw [List.getD_eq_getElem?_getD, List.getElem?_set]
  by_cases c : j = k
  · rw [if_pos c, if_pos (by rw [List.length_set]; exact hj), if_pos c.symm]; rfl
  · rw [if_neg c, List.getElem?_set]
    simp only [if_neg (show ¬ k = j from fun h => c h.symm)]
    by_cases d : i = k
    · rw [if_pos d, if_pos hi, if_pos d.symm]; rfl
    · rw [if_neg d, if_neg (fun h => d h.symm), ← List.getD_eq_getElem?_getD]
theorem sw_len (a : List Int) (i j : Nat) : (sw a i j).length = a.length := by simp [sw]
structure Pm (a : List Int) (n : Nat) : Prop where
  len : a.length = n
  rng : ∀ k, k < n → 0 ≤ a.getD k 0 ∧ a.getD k 0 < n
  sur : ∀ p : Nat, p < n → ∃ k, k < n ∧ a.getD k 0 = p
  inj : ∀ i j, i < n → j < n → a.getD i 0 = a.getD j 0 → i = j
def sg2 (i j k : Nat) : Nat := if k = j then i else if k = i then j else k
theorem sg2_inv (i j k : Nat) : sg2 i j (sg2 i j k) = k := by
  unfold sg2
  split
  · split <;> (try split) <;> omega
  · split
    · split <;> (try split) <;> omega
    · rfl
theorem sg2_lt {i j k n : Nat} (hi : i < n) (hj : j < n) (hk : k < n) : sg2 i j k < n := by
  unfold sg2
  split
  · exact hi
  · split
    · exact hj
    · exact hk
theorem swf_sg {X : Type} (g : Nat → X) (i j k : Nat) : swf g i j k = g (sg2 i j k) := by
  unfold swf sg2
  split
  · rfl
  · split <;> rfl
theorem Pm.sw {a : List Int} {n i j : Nat} (h : Pm a n) (hi : i < n) (hj : j < n) : Pm (sw a i j) n := by
  have hl := h.len
  have hg := fun k => (sw_get (a := a) (i := i) (j := j) (by omega) (by omega) k).trans (swf_sg _ i j k)
  refine ⟨by rw [sw_len]; exact hl, fun k hk => ?_, fun p hp => ?_, fun x y hx hy he => ?_⟩
  · rw [hg]; exact h.rng _ (sg2_lt hi hj hk)
  · obtain ⟨k, hk, e⟩ := h.sur p hp
    exact ⟨sg2 i j k, sg2_lt hi hj hk, by rw [hg, sg2_inv]; exact e⟩
  · rw [hg, hg] at he
    have := h.inj _ _ (sg2_lt hi hj hx) (sg2_lt hi hj hy) he
    rw [← sg2_inv i j x, this, sg2_inv]
theorem Pm.nil : Pm [] 0 := ⟨rfl, fun k h => by omega, fun p h => by omega, fun i j h => by omega⟩
theorem getD_snoc (a : List Int) (x : Int) (k : Nat) : (a ++ [x]).getD k 0 = if k < a.length then a.getD k 0 else if k = a.length then x else 0 := by
  rw [List.getD_eq_getElem?_getD, List.getElem?_append]
  split
  · rw [← List.getD_eq_getElem?_getD]
  · split
    · rename_i e; rw [e]; simp
    · rw [List.getElem?_eq_none (by simp; omega)]; rfl
theorem Pm.snoc {a : List Int} {n : Nat} (h : Pm a n) : Pm (a ++ [(n : Int)]) (n + 1) := by
  have hl := h.len
  have hg := getD_snoc a (n : Int)
  rw [hl] at hg
  refine ⟨by simp [hl], fun k hk => ?_, fun p hp => ?_, fun x y hx hy he => ?_⟩
  · rw [hg]
    by_cases c : k < n
    · rw [if_pos c]; have := h.rng k c; omega
    · rw [if_neg c, if_pos (by omega)]; omega
  · by_cases c : p < n
    · obtain ⟨k, hk, e⟩ := h.sur p c
      exact ⟨k, by omega, by rw [hg, if_pos hk, e]⟩
    · exact ⟨n, by omega, by rw [hg, if_neg (by omega), if_pos rfl]; omega⟩
  · rw [hg, hg] at he
    by_cases c : x < n
    · rw [if_pos c] at he
      have r1 := h.rng x c
      by_cases d : y < n
      · rw [if_pos d] at he; exact h.inj x y c d he
      · rw [if_neg d, if_pos (by omega)] at he; omega
    · rw [if_neg c, if_pos (by omega)] at he
      by_cases d : y < n
      · rw [if_pos d] at he
        have r1 := h.rng y d
        omega
      · omega
def Bnd (Y : List Int) : Prop := ∀ p : Nat, -16 ≤ Y.getD p 0 ∧ Y.getD p 0 ≤ 16
def scr (Y : List Int) (x : Int) : Int := ab (Y.getD x.toNat 0) * 1000 + x
def sc (Y a : List Int) (k : Nat) : Int := scr Y (a.getD k 0)
section
variable {N : Nat} {Y : List Int} {L : Nat}
theorem less_F (hb : Bnd Y) (hY : Y.length ≤ 480) {a : List Int} {n : Nat} (h : Pm a n) (hn : n ≤ Y.length) {i j : Nat} (hi : i < n) (hj : j < n) :
    Rc.topsLess.F N i j Y a = some (decide (sc Y a i > sc Y a j)) := by
  unfold Rc.topsLess.F
  have hl := h.len
  have r1 := h.rng i hi
  have r2 := h.rng j hj
  have chkN_same : ∀ {T : Type} (x : Nat) (k : Option T), chkN x x k = k := fun x k => by simp [chkN]
  simp only [br_dec, br_beq, chkI_same, chkL_same, chkN_same, Int.toNat_natCast]
  unfold sc scr
  have b1 := hb (a.getD i 0).toNat
  have b2 := hb (a.getD j 0).toNat
  rw [chk_pos (by omega), chk_pos (by omega), abs9_F (by omega) (by omega), obind_of, chk_pos (by omega), chk_pos (by omega), abs9_F (by omega) (by omega), obind_of, chk_pos (by omega), chk_pos (by omega)]
  by_cases c : ab (Y.getD (a.getD i 0).toNat 0) > ab (Y.getD (a.getD j 0).toNat 0)
  · rw [if_pos c, decide_eq_true (by omega)]
  · rw [if_neg c]
    by_cases d : ab (Y.getD (a.getD i 0).toNat 0) = ab (Y.getD (a.getD j 0).toNat 0)
    · rw [if_pos d, chk_pos (by omega), chk_pos (by omega)]
      congr 1
      by_cases e : a.getD i 0 > a.getD j 0
      · rw [decide_eq_true e, decide_eq_true (by omega)]
      · rw [decide_eq_false e, decide_eq_false (by omega)]
    · rw [if_neg d, decide_eq_false (by omega)]
theorem swap_F {a : List Int} {i j : Nat} (hi : i < a.length) (hj : j < a.length) : Rc.topsSwap.F N i j Y a = some (sw a i j) := by
  unfold Rc.topsSwap.F
  simp only [chkL_same, Int.toNat_natCast, List.length_set]
  rw [chk_pos (by omega), chk_pos (by omega), chk_pos (by omega), chk_pos (by omega)]
  rfl
theorem sc_sw {a : List Int} {i j : Nat} (hi : i < a.length) (hj : j < a.length) : sc Y (sw a i j) = swf (sc Y a) i j := by
  funext k
  unfold sc
  rw [sw_get hi hj]
  unfold swf
  split
  · rfl
  · split <;> rfl
theorem par_wrap {j : Nat} (h0 : 0 < j) (h1 : j ≤ 480) : IntKind.i64.wrap ((IntKind.i64.wrap ((j : Int) - 1)).tdiv 2) = (((j - 1) / 2 : Nat) : Int) := by
  rw [i64 (x := (j : Int) - 1) (by omega) (by omega), tdiv_ediv (by omega), i64 (by omega) (by omega)]
  omega
theorem par_zero : IntKind.i64.wrap ((IntKind.i64.wrap (((0 : Nat) : Int) - 1)).tdiv 2) = ((0 : Nat) : Int) := by decide +kernel
theorem up_loop (hb : Bnd Y) (hY : Y.length ≤ 480) {n : Nat} (hn : n ≤ Y.length) : ∀ (nn j : Nat) (a : List Int), Pm a n → j < n → UpI (sc Y a) j n → j < nn →
    ∃ a', Rc.heapUp.loop0 N nn Y j a = some a' ∧ Pm a' n ∧ Hp (sc Y a') n
  | 0, j, a, _, _, _, h => by omega
  | nn + 1, 0, a, hp, hj, hu, h => by
    unfold Rc.heapUp.loop0
    simp only [br_beq, chkL_same]
    rw [if_pos par_zero]
    exact ⟨a, rfl, hp, hu.done (fun h => by omega)⟩
  | nn + 1, j + 1, a, hp, hj, hu, h => by
    have hl := hp.len
    unfold Rc.heapUp.loop0
    simp only [br_beq, br_not, chkL_same]
    rw [par_wrap (by omega) (by omega), if_neg (by omega), less_F hb hY hp hn (by omega) (by omega), obind_of]
    by_cases c : sc Y a (j + 1) > sc Y a ((j + 1 - 1) / 2)
    · rw [decide_eq_true c, if_pos rfl, swap_F (by omega) (by omega), obind_of]
      exact up_loop hb hY hn nn ((j + 1 - 1) / 2) _ (hp.sw (by omega) hj) (by omega) (by rw [sc_sw (by omega) (by omega)]; exact hu.step (by omega) hj c) (by omega)
    · rw [decide_eq_false c, if_neg Bool.false_ne_true]
      exact ⟨a, rfl, hp, hu.done (fun _ => by omega)⟩
theorem up_F (hb : Bnd Y) (hY : Y.length ≤ 480) {n : Nat} (hn : n ≤ Y.length) (hN : 30000 ≤ N) {j : Nat} {a : List Int} (hp : Pm a n) (hj : j < n) (hu : UpI (sc Y a) j n) :
    ∃ a', Rc.heapUp.F N j Y a = some a' ∧ Pm a' n ∧ Hp (sc Y a') n := by
  obtain ⟨a', h1, h2, h3⟩ := up_loop (N := N) hb hY hn N j a hp hj hu (by omega)
  unfold Rc.heapUp.F
  rw [h1, obind_of, chkL_same]
  exact ⟨a', rfl, h2, h3⟩
theorem child_wrap {s : Nat} (h : s ≤ 480) : IntKind.i64.wrap (IntKind.i64.wrap (2 * (s : Int)) + 1) = ((2 * s + 1 : Nat) : Int) ∧ IntKind.i64.wrap (((2 * s + 1 : Nat) : Int) + 1) = ((2 * s + 2 : Nat) : Int) := by
  rw [i64 (x := 2 * (s : Int)) (by omega) (by omega), i64 (by omega) (by omega), i64 (by omega) (by omega)]
  omega
theorem down_loop (hb : Bnd Y) (hY : Y.length ≤ 480) {n : Nat} (hn : n ≤ Y.length) : ∀ (nn s : Nat) (a : List Int), Pm a n → s < n → DnI (sc Y a) s n → n - s < nn →
    ∃ (s' : Nat) (a' : List Int), Rc.heapDown.loop2 N nn n Y s a = some ((s' : Int), a') ∧ Pm a' n ∧ Hp (sc Y a') n
  | 0, s, a, _, _, _, h => by omega
  | nn + 1, s, a, hp, hs, hd, h => by
    have hl := hp.len
    obtain ⟨w1, w2⟩ := child_wrap (s := s) (by omega)
    unfold Rc.heapDown.loop2
    simp only [br_dec, br_not, chkL_same, chkI_same]
    simp only [w1, w2]
    by_cases c1 : 2 * s + 1 ≥ n
    · rw [if_pos (by omega)]
      exact ⟨s, a, rfl, hp, hd.done (fun i h0 h1 hi => by omega)⟩
    rw [if_neg (by omega), if_neg (by omega)]
    have go : ∀ c : Nat, c < n → (c = 2 * s + 1 ∨ c = 2 * s + 2) → (∀ i, 0 < i → i < n → (i - 1) / 2 = s → sc Y a i ≤ sc Y a c) → ∃ (s' : Nat) (a' : List Int), (obind (Rc.topsLess.F N (c : Int) (s : Int) Y a) fun r1 => if r1 = true then obind (Rc.topsSwap.F N (s : Int) (c : Int) Y a) fun r2 => Rc.heapDown.loop2 N nn n Y (c : Int) r2 else some ((s : Int), a)) = some ((s' : Int), a') ∧ Pm a' n ∧ Hp (sc Y a') n := by
      intro c hc hcs hbest
      rw [less_F hb hY hp hn hc hs, obind_of]
      by_cases d : sc Y a c > sc Y a s
      · rw [decide_eq_true d, if_pos rfl, swap_F (by omega) (by omega), obind_of]
        exact down_loop hb hY hn nn c _ (hp.sw hs hc) hc (by rw [sc_sw (by omega) (by omega)]; exact hd.step hc (by omega) (by omega) d hbest) (by omega)
      · rw [decide_eq_false d, if_neg Bool.false_ne_true]
        exact ⟨s, a, rfl, hp, hd.done (fun i h0 h1 hi => by have := hbest i h0 h1 hi; omega)⟩
    by_cases c2 : 2 * s + 2 < n
    · rw [if_pos (by omega), less_F hb hY hp hn c2 (by omega), obind_of]
      by_cases d : sc Y a (2 * s + 2) > sc Y a (2 * s + 1)
      · rw [decide_eq_true d, br_true]
        refine go (2 * s + 2) c2 (Or.inr rfl) (fun i h0 h1 hi => ?_)
        rcases (show i = 2 * s + 1 ∨ i = 2 * s + 2 by omega) with e | e
        · rw [e]; omega
        · rw [e]; exact Int.le_refl _
      · rw [decide_eq_false d, br_false]
        refine go (2 * s + 1) (by omega) (Or.inl rfl) (fun i h0 h1 hi => ?_)
        rcases (show i = 2 * s + 1 ∨ i = 2 * s + 2 by omega) with e | e
        · rw [e]; exact Int.le_refl _
        · rw [e]; omega
    · rw [if_neg (by omega)]
      refine go (2 * s + 1) (by omega) (Or.inl rfl) (fun i h0 h1 hi => ?_)
      rw [show i = 2 * s + 1 by omega]; exact Int.le_refl _
theorem fix_F (hb : Bnd Y) (hY : Y.length ≤ 480) {n : Nat} (hn : n ≤ Y.length) (hN : 30000 ≤ N) {a : List Int} (hp : Pm a n) (h0 : 0 < n) (hd : DnI (sc Y a) 0 n) :
    ∃ a', Rc.heapFix.F N 0 Y a = some a' ∧ Pm a' n ∧ Hp (sc Y a') n := by
  obtain ⟨s', a', h1, h2, h3⟩ := down_loop (N := N) hb hY hn N 0 a hp h0 hd (by omega)
  rw [show ((0 : Nat) : Int) = 0 from rfl] at h1
  unfold Rc.heapFix.F Rc.topsLen.F Rc.heapDown.F
  simp only [chkL_same, br_not]
  rw [obind_of, hp.len, h1, obind_of, obind_of]
  simp only
  by_cases c : (s' : Int) > 0
  · rw [decide_eq_true c, if_pos rfl]
    exact ⟨a', rfl, h2, h3⟩
  · rw [decide_eq_false c, if_neg Bool.false_ne_true]
    obtain ⟨a2, k1, k2, k3⟩ := up_F (N := N) hb hY hn hN (j := 0) h2 h0 ⟨fun i i0 i1 _ => h3 i i0 i1, fun h => by omega⟩
    rw [show ((0 : Nat) : Int) = 0 from rfl] at k1
    rw [k1, obind_of]
    exact ⟨a2, rfl, k2, k3⟩
theorem push_loop (hb : Bnd Y) (hY : Y.length ≤ 480) (hN : 30000 ≤ N) : ∀ (nn k : Nat) (a : List Int), Pm a k → Hp (sc Y a) k → k ≤ Y.length → Y.length - k < nn →
    ∃ a', Rc.thin9.loop2 N nn Y.length Y k a = some a' ∧ Pm a' Y.length ∧ Hp (sc Y a') Y.length
  | 0, k, a, _, _, _, h => by omega
  | nn + 1, k, a, hp, hh, hk, h => by
    have hl := hp.len
    unfold Rc.thin9.loop2 Rc.topsLen.F
    simp only [br_dec, chkL_same, chkI_same]
    by_cases c : k < Y.length
    · have hlen : (a ++ [(k : Int)]).length = k + 1 := by simp [hl]
      have hs : ∀ i, i < k → sc Y (a ++ [(k : Int)]) i = sc Y a i := fun i hi => by
        unfold sc
        rw [getD_snoc, if_pos (by omega)]
      rw [if_pos (by omega), chk_pos (by rw [hl]; simp; omega), obind_of, hlen, i64 (x := ((k + 1 : Nat) : Int) - 1) (by omega) (by omega), show ((k + 1 : Nat) : Int) - 1 = (k : Int) by omega, i64 (x := (k : Int) + 1) (by omega) (by omega)]
      obtain ⟨a2, k1, k2, k3⟩ := up_F (N := N) hb hY (n := k + 1) (by omega) hN (j := k) hp.snoc (by omega) ⟨fun i i0 i1 hi => by
        rw [hs i (by omega), hs _ (by omega)]
        exact hh i i0 (by omega), fun k0 i i0 i1 hi => by omega⟩
      rw [k1, obind_of]
      have ih := push_loop hb hY hN nn (k + 1) a2 k2 k3 (by omega) (by omega)
      rw [show ((k + 1 : Nat) : Int) = (k : Int) + 1 by omega] at ih
      exact ih
    · rw [if_neg (by omega)]
      have : k = Y.length := by omega
      rw [← this]
      exact ⟨a, rfl, hp, hh⟩
end
end Go.Pl
