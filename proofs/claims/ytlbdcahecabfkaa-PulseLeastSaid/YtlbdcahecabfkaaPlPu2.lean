/-
  Layer 9: signs and blocks, read by both.
  Conditions: none.
-/
import Derived.Test.YtlbdcahecabfkaaPlPu
set_option linter.unusedSimpArgs false
set_option linter.unusedVariables false
namespace Go.Pl
open Go.Eng Go.Proofs
theorem getD_mid9 (A D : List Int) (v : Int) (R : List Int) : (A ++ (D ++ v :: R)).getD (A.length + D.length) 0 = v := by
  rw [← List.append_assoc, ← List.length_append, List.getD_eq_getElem?_getD, List.getElem?_append_right (Nat.le_refl _)]
  simp
theorem set_mid9 (A D : List Int) (v x : Int) (R : List Int) : (A ++ (D ++ v :: R)).set (A.length + D.length) x = A ++ ((D ++ [x]) ++ R) := by
  rw [← List.append_assoc, ← List.length_append, List.set_append_right _ _ (Nat.le_refl _)]
  simp
def sgn (b : List Int) : List Int → W → List Int × W × Int
  | [], w => ([], w, 0)
  | v :: r, w => if v > 0 then ((if w.val b 1 = 1 then 0 - v else v) :: (sgn b r (w.next b 1)).1, (sgn b r (w.next b 1)).2.1, 1 + (sgn b r (w.next b 1)).2.2) else (v :: (sgn b r w).1, (sgn b r w).2.1, (sgn b r w).2.2)
theorem sgn_facts {b : List Int} (hb : Bytes b) : ∀ (X : List Int) (w : W), w.Ok → (sgn b X w).2.1.Ok ∧ (sgn b X w).1.length = X.length ∧ 0 ≤ (sgn b X w).2.2 ∧ (sgn b X w).2.2 ≤ X.length
  | [], w, h => ⟨h, rfl, by simp [sgn], by simp [sgn]⟩
  | v :: r, w, h => by
    simp only [sgn]
    split
    · obtain ⟨a1, a2, a3, a4⟩ := sgn_facts hb r (w.next b 1) (W.next_ok hb h (by omega))
      exact ⟨a1, by simp [a2], by simp only; omega, by simp only [List.length_cons]; omega⟩
    · obtain ⟨a1, a2, a3, a4⟩ := sgn_facts hb r w h
      exact ⟨a1, by simp [a2], a3, by simp only [List.length_cons]; omega⟩
section
variable {N : Nat} {b : List Int} {bad : Bool}
theorem rsigns_loop (hb : Bytes b) (hl : True → b.length < 1099511627776) (hN : 300 ≤ N) {A B : List Int} {rng val last front : Int} {T : Nat} (hT : True → T ≤ 1000) (hA : True → A.length ≤ 1000) : ∀ (nn : Nat) (R D : List Int) (w : W) (c : Int), w.Ok → D.length + R.length = T → (∀ x ∈ R, 0 ≤ x ∧ x ≤ 16) → R.length < nn → 0 ≤ c → (True → c + R.length < 1099511600000) →
    Rc.read9.loop10 N nn (A.length : Int) (T : Int) (T : Int) rng val last front bad b (D.length : Int) (fr b w.k) w.win (w.wai : Int) c (A ++ (D ++ (R ++ B))) =
      some (fr b (sgn b R w).2.1.k, (sgn b R w).2.1.win, ((sgn b R w).2.1.wai : Int), c + (sgn b R w).2.2, A ++ (D ++ ((sgn b R w).1 ++ B)))
  | 0, R, D, w, c, _, _, _, h, _, _ => by omega
  | nn + 1, [], D, w, c, hw, hd, hR, h, c0, c1 => by
    simp only [List.length_nil] at hd
    unfold Rc.read9.loop10
    simp only [br_dec, br_beq, chkI_same, chkB_same, chkL_same]
    rw [if_neg (by omega)]
    simp only [sgn, Int.add_zero]
    simp [chkN]
  | nn + 1, v :: R, D, w, c, hw, hd, hR, h, c0, c1 => by
    have c1 := c1 trivial
    have hl' := hl trivial
    have hT' := hT trivial
    have hA' := hA trivial
    simp only [List.length_cons] at hd h c1
    have hv := hR v (by simp)
    have hR' : ∀ x ∈ R, 0 ≤ x ∧ x ≤ 16 := fun x hx => hR x (by simp [hx])
    unfold Rc.read9.loop10
    simp only [br_dec, br_beq, chkI_same, chkB_same, chkL_same, Int.toNat_natCast]
    have e1 : (A ++ (D ++ (v :: R ++ B))).getD (A.length + D.length) 0 = v := getD_mid9 A D v (R ++ B)
    have chkN_same : ∀ {Y : Type} (x : Nat) (k : Option Y), chkN x x k = k := fun x k => by simp [chkN]
    simp only [chkN_same]
    rw [if_pos (by omega), chk_pos (by omega), i64 (x := (D.length : Int) + 1) (by omega) (by omega)]
    simp only [e1]
    by_cases cv : v > 0
    · rw [if_pos cv, bits_F hb hl' hw 1 c0 (by omega) hN, if_pos (by omega), obind_of, show (1 : Int).toNat = 1 from rfl]
      simp only
      rw [i64 (x := 0 - v) (by omega) (by omega)]
      have ih := fun D' (hD' : D'.length + R.length = T) => rsigns_loop hb hl hN (A := A) (B := B) (rng := rng) (val := val) (last := last) (front := front) hT hA nn R D' (w.next b 1) (c + 1) (W.next_ok hb hw (by omega)) hD' hR' (by omega) (by omega) (fun _ => by omega)
      have hs : sgn b (v :: R) w = ((if w.val b 1 = 1 then 0 - v else v) :: (sgn b R (w.next b 1)).1, (sgn b R (w.next b 1)).2.1, 1 + (sgn b R (w.next b 1)).2.2) := by simp only [sgn]; rw [if_pos cv]
      rw [hs]
      simp only
      by_cases cs : w.val b 1 = 1
      · rw [if_pos cs, chk_pos (by omega), chk_pos (by omega), if_pos cs]
        have e2 : (A ++ (D ++ (v :: R ++ B))).set (A.length + D.length) (0 - v) = A ++ ((D ++ [0 - v]) ++ (R ++ B)) := set_mid9 A D v (0 - v) (R ++ B)
        rw [e2]
        have := ih (D ++ [0 - v]) (by simp; omega)
        rw [List.length_append, List.length_singleton, show ((D.length + 1 : Nat) : Int) = (D.length : Int) + 1 by omega] at this
        rw [this]
        simp [Int.add_assoc]
      · rw [if_neg cs, if_neg cs]
        have := ih (D ++ [v]) (by simp; omega)
        rw [List.length_append, List.length_singleton, show ((D.length + 1 : Nat) : Int) = (D.length : Int) + 1 by omega, show A ++ ((D ++ [v]) ++ (R ++ B)) = A ++ (D ++ (v :: R ++ B)) by simp] at this
        rw [this]
        simp [Int.add_assoc]
    · rw [if_neg cv]
      have hs : sgn b (v :: R) w = (v :: (sgn b R w).1, (sgn b R w).2.1, (sgn b R w).2.2) := by simp only [sgn]; rw [if_neg cv]
      rw [hs]
      have := rsigns_loop hb hl hN (A := A) (B := B) (rng := rng) (val := val) (last := last) (front := front) hT hA nn R (D ++ [v]) w c hw (by simp; omega) hR' (by omega) c0 (fun _ => by omega)
      rw [List.length_append, List.length_singleton, show ((D.length + 1 : Nat) : Int) = (D.length : Int) + 1 by omega, show A ++ ((D ++ [v]) ++ (R ++ B)) = A ++ (D ++ (v :: R ++ B)) by simp] at this
      rw [this]
      simp
end
def bsh (b : List Int) (q : Q) : Q × List Int := shq b 4 (q.sk (icdfT 5) : Int) (q.sy b (icdfT 5))
def blks (b : List Int) : Nat → Q → W → Int → List Int → Q × W × Int × List Int
  | 0, q, w, C, o => (q, w, C, o)
  | n + 1, q, w, C, o => blks b n (bsh b q).1 (sgn b (bsh b q).2 w).2.1 (C + (sgn b (bsh b q).2 w).2.2) (o ++ (sgn b (bsh b q).2 w).1)
theorem bsh_facts {b : List Int} (hb : Bytes b) {q : Q} (h : q.Ok) : (bsh b q).1.Ok ∧ q.m ≤ (bsh b q).1.m ∧ (bsh b q).1.m ≤ q.m + 68 ∧ (bsh b q).2.length = 16 ∧ (∀ x ∈ (bsh b q).2, 0 ≤ x ∧ x ≤ 16) ∧ tot (bsh b q).2 ≤ 16 := by
  have hs := (Q.sk_spec h g5).1
  rw [len5] at hs
  have hm := Q.sy_m b q (icdfT 5)
  obtain ⟨a1, a2, a3, a4, a5, a6⟩ := shq_facts hb 4 (q.sk (icdfT 5) : Int) (q.sy b (icdfT 5)) (Q.sy_ok hb h g5) (by omega) (by omega)
  refine ⟨a1, by unfold bsh; omega, by unfold bsh; omega, a4, a5, by unfold bsh; omega⟩
theorem blks_facts {b : List Int} (hb : Bytes b) : ∀ (n : Nat) (q : Q) (w : W) (C : Int) (o : List Int), q.Ok → w.Ok →
    (blks b n q w C o).1.Ok ∧ (blks b n q w C o).2.1.Ok ∧ q.m ≤ (blks b n q w C o).1.m ∧ (blks b n q w C o).1.m ≤ q.m + 68 * n ∧ C ≤ (blks b n q w C o).2.2.1 ∧ (blks b n q w C o).2.2.1 ≤ C + 16 * n ∧ (blks b n q w C o).2.2.2.length = o.length + 16 * n
  | 0, q, w, C, o, h, hw => ⟨h, hw, Nat.le_refl _, by simp [blks], by simp [blks], by simp [blks], by simp [blks]⟩
  | n + 1, q, w, C, o, h, hw => by
    obtain ⟨a1, a2, a3, a4, a5, a6⟩ := bsh_facts hb h
    obtain ⟨s1, s2, s3, s4⟩ := sgn_facts hb (bsh b q).2 w hw
    obtain ⟨i1, i2, i3, i4, i5, i6, i7⟩ := blks_facts hb n (bsh b q).1 (sgn b (bsh b q).2 w).2.1 (C + (sgn b (bsh b q).2 w).2.2) (o ++ (sgn b (bsh b q).2 w).1) a1 s1
    rw [List.length_append, s2, a4] at i7
    exact ⟨i1, i2, by simp only [blks]; omega, by simp only [blks]; omega, by simp only [blks]; omega, by simp only [blks]; omega, by simp only [blks]; omega⟩
section
variable {N : Nat} {b : List Int} {bad : Bool}
theorem read9_loop (hb : Bytes b) (hl : True → b.length < 1099511627776) (hN : 30000 ≤ N) {n : Nat} (hn : n ≤ 480) : ∀ (nn m : Nat) (q : Q) (w : W) (C : Int) (o : List Int), q.Ok → w.Ok → 0 ≤ C → (True → C + 16 * m ≤ 100000) → q.m + 68 * m ≤ 10000 → o.length + 16 * m = n → m < nn →
    Rc.read9.loop5 N nn n b o.length q.rng q.val q.last (fr b q.m) (fr b w.k) w.win (w.wai : Int) (C + 8 * (q.m : Int)) bad (o ++ List.replicate (16 * m) 0) =
      some ((blks b m q w C o).1.rng, (blks b m q w C o).1.val, (blks b m q w C o).1.last, fr b (blks b m q w C o).1.m, fr b (blks b m q w C o).2.1.k, (blks b m q w C o).2.1.win, ((blks b m q w C o).2.1.wai : Int), (blks b m q w C o).2.2.1 + 8 * ((blks b m q w C o).1.m : Int), bad, (blks b m q w C o).2.2.2)
  | 0, m, q, w, C, o, _, _, _, _, _, _, h => by omega
  | nn + 1, 0, q, w, C, o, h, hw, c0, c1, hm, ho, h0 => by
    unfold Rc.read9.loop5
    simp only [br_dec, chkI_same, chkB_same, chkL_same]
    rw [if_neg (by omega)]
    simp [blks]
  | nn + 1, m + 1, q, w, C, o, h, hw, c0, c1, hm, ho, h0 => by
    have c1 := c1 trivial
    have hl' := hl trivial
    have hs := (Q.sk_spec h g5).1
    rw [len5] at hs
    have hq1 := Q.sy_ok hb h g5
    have hm1 := Q.sy_m b q (icdfT 5)
    obtain ⟨a1, a2, a3, a4, a5, a6⟩ := bsh_facts hb h
    obtain ⟨s1, s2, s3, s4⟩ := sgn_facts hb (bsh b q).2 w hw
    unfold Rc.read9.loop5
    simp only [br_dec, chkI_same, chkB_same, chkL_same]
    have hlen : (o ++ List.replicate (16 * (m + 1)) (0 : Int)).length = n := by simp; omega
    rw [if_pos (by omega), i64 (x := (o.length : Int) + 16) (by omega) (by omega), chk_pos (by omega), chk_pos (by omega), ticdf_F, obind_of, (symbol_F hb hl' h (icdfT 5) (by omega) (by omega) (by omega)).1 g5, obind_of]
    simp only
    rw [show ((o.length : Int) + 16).toNat = o.length + 16 by omega, Int.toNat_natCast, show o.length + 16 - o.length = 16 by omega, chk_pos (by omega), ct_m (b := b) hm1.1]
    have hsh := share9_G (N := N) (back := fr b w.k) (window := w.win) (waiting := (w.wai : Int)) (C := C) (bad := bad) hb hl (by omega) c0 (fun _ => by omega) (M := 1000000) (fun _ => Nat.le_refl _) N 4 (q.sk (icdfT 5) : Int) (q.sy b (icdfT 5)) (List.take 16 (List.drop o.length (o ++ List.replicate (16 * (m + 1)) 0))) hq1 (by omega) (by omega) (by rw [List.length_take, List.length_drop, hlen]; omega) (by omega) (by omega) (by omega)
    have hsf : Rc.share9.F N (q.sk (icdfT 5) : Int) (q.sy b (icdfT 5)).rng (q.sy b (icdfT 5)).val (q.sy b (icdfT 5)).last (fr b (q.sy b (icdfT 5)).m) (fr b w.k) w.win (w.wai : Int) (C + 8 * ((q.sy b (icdfT 5)).m : Int)) bad b (List.take 16 (List.drop o.length (o ++ List.replicate (16 * (m + 1)) 0))) = _ := hsh
    rw [hsf, obind_of]
    simp only
    have hmid : List.take o.length (o ++ List.replicate (16 * (m + 1)) (0 : Int)) ++ ((shq b 4 (q.sk (icdfT 5) : Int) (q.sy b (icdfT 5))).2 ++ List.drop (o.length + 16) (o ++ List.replicate (16 * (m + 1)) 0)) = o ++ ([] ++ ((bsh b q).2 ++ List.replicate (16 * m) 0)) := by
      rw [List.take_left' rfl, List.nil_append]
      congr 1
      unfold bsh
      congr 1
      rw [List.drop_append, List.drop_eq_nil_of_le (by omega), List.nil_append, List.drop_replicate]
      congr 1
      omega
    rw [hmid]
    have hsg := rsigns_loop (N := N) (bad := bad) hb hl (by omega) (A := o) (B := List.replicate (16 * m) 0) (rng := (bsh b q).1.rng) (val := (bsh b q).1.val) (last := (bsh b q).1.last) (front := fr b (bsh b q).1.m) (T := 16) (fun _ => by omega) (fun _ => by omega) N (bsh b q).2 [] w (C + 8 * ((bsh b q).1.m : Int)) hw (by rw [a4]; rfl) a5 (by omega) (by omega) (fun _ => by omega)
    have hsg' : Rc.read9.loop10 N N (o.length : Int) ((16 : Nat) : Int) ((16 : Nat) : Int) (shq b 4 (q.sk (icdfT 5) : Int) (q.sy b (icdfT 5))).1.rng (shq b 4 (q.sk (icdfT 5) : Int) (q.sy b (icdfT 5))).1.val (shq b 4 (q.sk (icdfT 5) : Int) (q.sy b (icdfT 5))).1.last (fr b (shq b 4 (q.sk (icdfT 5) : Int) (q.sy b (icdfT 5))).1.m) bad b 0 (fr b w.k) w.win (w.wai : Int) (C + 8 * ((shq b 4 (q.sk (icdfT 5) : Int) (q.sy b (icdfT 5))).1.m : Int)) (o ++ ([] ++ ((bsh b q).2 ++ List.replicate (16 * m) 0))) = _ := hsg
    rw [hsg', obind_of]
    simp only
    have ih := read9_loop hb hl hN hn nn m (bsh b q).1 (sgn b (bsh b q).2 w).2.1 (C + (sgn b (bsh b q).2 w).2.2) (o ++ (sgn b (bsh b q).2 w).1) a1 s1 (by omega) (fun _ => by omega) (by omega) (by rw [List.length_append, s2, a4]; omega) (by omega)
    rw [List.length_append, s2, a4, show ((o.length + 16 : Nat) : Int) = (o.length : Int) + 16 by omega, List.append_assoc, show C + (sgn b (bsh b q).2 w).2.2 + 8 * ((bsh b q).1.m : Int) = C + 8 * ((bsh b q).1.m : Int) + (sgn b (bsh b q).2 w).2.2 by omega] at ih
    exact ih
end
end Go.Pl
