/-
 Layer 14: a Fresh frame without pulses is silence.
 Conditions: none.
-/
import Derived.Test.YtghbobmkkbdhpaaGreatPlPuToPlSy5
import Derived.Test.YtghbobmkkbdhpaaGreatPlKnown14
import Derived.Test.YtghbobmkkbdhpaaGreatSpEFns
import Derived.Test.YtghbobmkkbdhpaaGreatSpLawsC
set_option linter.unusedVariables false
set_option linter.unusedSimpArgs false
namespace Go.Pl
open Go.Eng Go.Proofs
section
variable {N : Nat}
theorem syreset_F {v : List Int} (hv : v.length = 352) : Rc.syreset.F N v = some (List.replicate 352 0) := by
 unfold Rc.syreset.F
 rw [chk_pos (by omega), List.drop_eq_nil_of_le (by omega), List.append_nil]
 rfl
end
end Go.Pl
/-
 Layer 14: a frame is played: what it comes to.
 Conditions: none.
-/
namespace Go.Pl
open Go.Eng Go.Proofs
def tapT : List (List Int) := [[13, 22, 39, 23, 12], [-1, 36, 64, 27, -6], [4, 6, 24, 7, 5], [-2, 6, 118, 7, -3], [2, 10, 70, 15, 0], [-9, 30, 80, 34, -10], [0, 0, 96, 0, 0], [5, 29, 50, 29, 5]]
def tapV (i : Int) : List Int := tapT.getD i.toNat []
def tapB (l : List Int) : Prop := (-128 <= l.getD 0 0 /\ l.getD 0 0 <= 128) /\ (-128 <= l.getD 1 0 /\ l.getD 1 0 <= 128) /\ (-128 <= l.getD 2 0 /\ l.getD 2 0 <= 128) /\ (-128 <= l.getD 3 0 /\ l.getD 3 0 <= 128) /\ (-128 <= l.getD 4 0 /\ l.getD 4 0 <= 128) /\ l = [l.getD 0 0, l.getD 1 0, l.getD 2 0, l.getD 3 0, l.getD 4 0]
instance (l : List Int) : Decidable (tapB l) := by unfold tapB; infer_instance
theorem tapV_B {i : Int} (h0 : 0 <= i) (h1 : i <= 7) : tapB (tapV i) := by
 have key : ∀ i : Fin 8, tapB (tapT.getD i.val []) := by decide +kernel
 exact key ⟨i.toNat, by omega⟩
def five (l : List Int) : Int × Int × Int × Int × Int := (l.getD 0 0, l.getD 1 0, l.getD 2 0, l.getD 3 0, l.getD 4 0)
theorem ttaps_F {N : Nat} {i : Int} (h0 : 0 <= i) (h1 : i <= 7) : Rc.ttaps.F N i = some (five (tapV i)) := by
 have : i = 0 \/ i = 1 \/ i = 2 \/ i = 3 \/ i = 4 \/ i = 5 \/ i = 6 \/ i = 7 := by omega
 rcases this with rfl | rfl | rfl | rfl | rfl | rfl | rfl | rfl <;> rfl
theorem cnt_memS : ∀ {l : List Int}, cnt l <= 16 -> ∀ v ∈ l, -16 <= v /\ v <= 16
 | [], _, v, hv => by simp at hv
 | x :: l, h, v, hv => by
  have e : cnt (x :: l) = ab (c32 x) + cnt l := by simp [cnt, tot]
  have h1 := (cnt_range l).1
  have h0 : 0 <= ab (c32 x) := by unfold ab; split <;> omega
  rcases List.mem_cons.1 hv with rfl | hv
  ·have h2 : ab (c32 v) <= 16 := by omega
   unfold ab c32 at h2
   split at h2 <;> split at h2 <;> (try split at h2) <;> omega
  ·exact cnt_memS (by omega) v hv
theorem okB_mem : ∀ (m : Nat) {l : List Int}, l.length = 16 * m -> okB m l = true -> ∀ v ∈ l, -16 <= v /\ v <= 16
 | 0, l, h, _, v, hv => by
  have : l = [] := List.eq_nil_of_length_eq_zero (by omega)
  rw [this] at hv; simp at hv
 | m + 1, l, h, ho, v, hv => by
  simp only [okB, Bool.and_eq_true, decide_eq_true_eq] at ho
  rw [<- List.take_append_drop 16 l] at hv
  rcases List.mem_append.1 hv with hv | hv
  ·exact cnt_memS ho.1 v hv
  ·exact okB_mem m (by rw [List.length_drop]; omega) ho.2 v hv
theorem goodB_mem {l : List Int} (h : goodB l = true) : ∀ v ∈ l, -16 <= v /\ v <= 16 := by
 unfold goodB mayB at h
 simp only [Bool.and_eq_true, decide_eq_true_eq] at h
 exact okB_mem (l.length / 16) (by omega) h.2
theorem last_any {l : List Int} (h : 1 <= l.length) (d e : Int) : l.getLastD d = l.getLastD e := by
 rw [List.getLastD_eq_getLast?, List.getLastD_eq_getLast?, List.getLast?_eq_getElem?, List.getElem?_eq_getElem (by omega)]
 rfl
def ah14 (n : Nat) : List Int := (List.range n).map fun (k : Nat) => (32768 * ((k : Int) + 1)).tdiv ((n : Int) + 1)
theorem ah14_len (n : Nat) : (ah14 n).length = n := by simp [ah14]
section
variable {N : Nat}
theorem plreset_to {rate gain : Int} {voice : List Int} {n : Nat} (hn : n <= 100) : ∀ (nn k : Nat) (l : List Int), k <= n -> l.length = n -> l.take k = (ah14 n).take k -> n - k < nn -> Rc.plreset.loop4 N nn (n : Int) (n : Int) rate gain voice (k : Int) l = some (ah14 n)
 | 0, k, l, _, _, _, h => by omega
 | nn + 1, k, l, hk, h0, ht, h => by
  unfold Rc.plreset.loop4
  simp only [br_dec, chkI_same, chkL_same]
  by_cases c : k < n
  ·have hl := ah14_len n
   have hd : (0 : Int) <= (32768 * ((k : Int) + 1)).tdiv ((n : Int) + 1) /\ (32768 * ((k : Int) + 1)).tdiv ((n : Int) + 1) <= 32768 * ((k : Int) + 1) := by
    rw [Int.tdiv_eq_ediv_of_nonneg (by omega)]
    exact ⟨Int.ediv_nonneg (by omega) (by omega), Int.ediv_le_self _ (by omega)⟩
   rw [if_pos (by omega), i64 (x := (n : Int) + 1) (by omega) (by omega), chk_pos (by omega), chk_pos (by omega), i64 (x := (k : Int) + 1) (by omega) (by omega), i64 (x := 32768 * ((k : Int) + 1)) (by omega) (by omega), i64 (x := (32768 * ((k : Int) + 1)).tdiv ((n : Int) + 1)) (by omega) (by omega), Int.toNat_natCast]
   refine plreset_to hn nn (k + 1) _ (by omega) (by rw [List.length_set]; exact h0) ?_ (by omega)
   rw [List.take_add_one, List.take_add_one, List.take_set_of_le (by omega), List.getElem?_set_self (by omega), ht]
   congr 1
   have : (ah14 n)[k]? = some ((32768 * ((k : Int) + 1)).tdiv ((n : Int) + 1)) := by simp [ah14, c]
   rw [this]
  ·have hkn : k = n := by omega
   subst hkn
   rw [List.take_of_length_le (by omega), List.take_of_length_le (by rw [ah14_len]; omega)] at ht
   rw [if_neg (by omega), ht]
theorem plreset_F (hN : 30000 <= N) {rate gain : Int} {voice ahead : List Int} (hv : voice.length = 352) : Rc.plreset.F N rate gain voice ahead = some (20, List.replicate 352 0, ah14 (ord14 rate)) := by
 have ho := ord14_le rate
 unfold Rc.plreset.F
 rw [syreset_F hv, obind_of, torder_F, obind_of, chk_pos ⟨by omega, Int.le_refl _, Int.ofNat_le.2 (Nat.le_trans ho (by decide))⟩, Int.toNat_natCast]
 simp only [chkI_same, List.length_replicate]
 refine obind_step (plreset_to (by omega) N 0 _ (Nat.zero_le _) (by simp) (by simp) (by omega)) ?_
 rfl
def pcm14 (l : List Int) : List Int := l.map fun x => clp (-32768) 32767 (ml x 1 4)
theorem sypcm_to {s : List Int} (hn : s.length <= 10000) : ∀ (nn k : Nat) (l : List Int), k <= s.length -> l.length = s.length -> l.take k = (pcm14 s).take k -> s.length - k < nn -> Rc.sypcm.loop3 N nn (s.length : Int) s (k : Int) l = some (pcm14 s)
 | 0, k, l, _, _, _, h => by omega
 | nn + 1, k, l, hk, h0, ht, h => by
  have e4 : ∀ x y, Rc.fmul.F N x y 4 = some (ml x y 4) := fun x y => fmul_F (s := 4) (by omega) (by omega) x y
  have hs : ∀ v, Rc.fsat.F N v = some (clp (-32768) 32767 v) := fun v => by
   unfold Rc.fsat.F
   rw [clamp_F (by omega), obind_of]
  unfold Rc.sypcm.loop3
  simp only [br_dec, chkI_same, chkL_same]
  have hl : (pcm14 s).length = s.length := by simp [pcm14]
  by_cases c : k < s.length
  ·rw [if_pos (by omega), chk_pos (by omega), e4, obind_of, hs, obind_of, chk_pos (by omega), Int.toNat_natCast, i64 (x := (k : Int) + 1) (by omega) (by omega)]
   refine sypcm_to hn nn (k + 1) _ (by omega) (by rw [List.length_set]; exact h0) ?_ (by omega)
   rw [List.take_add_one, List.take_add_one, List.take_set_of_le (by omega), List.getElem?_set_self (by omega), ht]
   congr 1
   have : (pcm14 s)[k]? = some (clp (-32768) 32767 (ml (s.getD k 0) 1 4)) := by simp [pcm14, c, List.getD_eq_getElem?_getD]
   rw [this]
  ·have hkn : k = s.length := by omega
   rw [hkn, List.take_of_length_le (by omega), List.take_of_length_le (by omega)] at ht
   rw [if_neg (by omega), ht]
theorem sypcm_F (hN : 30000 <= N) {s : List Int} (hn : s.length <= 10000) : Rc.sypcm.F N s = some (pcm14 s) := by
 unfold Rc.sypcm.F
 rw [chk_pos (by omega), Int.toNat_natCast]
 refine obind_step (sypcm_to hn N 0 _ (Nat.zero_le _) (by simp) (by simp) (by omega)) ?_
 rfl
def lag14 (kind : Int) (ltps : List (List Int)) (k : Nat) : Int := if kind = 2 then (ltps.getD k []).headD 0 else 0
def tp14 (kind : Int) (ltps : List (List Int)) (k : Nat) : List Int := if kind = 2 then tapV ((ltps.getD k []).tail.headD 0) else [0, 0, 0, 0, 0]
def pp14 (n : Nat) (kind : Int) (pulses : List Int) (k : Nat) : List Int := if kind = 0 then List.replicate n 0 else (pulses.drop (k * n)).take n
def part14 (n cnt : Nat) (kind : Int) (gains pulses : List Int) (ltps : List (List Int)) (a1 a2 : List Int) (k : Nat) (v : List Int) : List Int × List Int :=
 run14 (gz (c63 (gains.getD k 0))) (lag14 kind ltps k) (tp14 kind ltps k) (if 2 * k < cnt then a1 else a2) (pp14 n kind pulses k) v []
def pr14 (n cnt : Nat) (kind : Int) (gains pulses : List Int) (ltps : List (List Int)) (a1 a2 : List Int) : Nat -> Nat -> List Int -> List Int -> List Int × List Int
 | 0, _, v, o => (v, o)
 | c + 1, k, v, o => pr14 n cnt kind gains pulses ltps a1 a2 c (k + 1) (part14 n cnt kind gains pulses ltps a1 a2 k v).1 (o ++ (part14 n cnt kind gains pulses ltps a1 a2 k v).2)
structure GoodR (n cnt : Nat) (kind : Int) (gains pulses : List Int) (ltps : List (List Int)) (a1 a2 : List Int) : Prop where
 n0 : 1 <= n
 n1 : n <= 100
 c : cnt <= 100
 g : gains.length = cnt
 p : kind ≠ 0 -> pulses.length = n * cnt /\ ∀ x ∈ pulses, -16 <= x /\ x <= 16
 l : kind = 2 -> ltps.length = cnt /\ ∀ r ∈ ltps, 3 <= r.headD 0 /\ r.headD 0 <= 318 /\ 0 <= r.tail.headD 0 /\ r.tail.headD 0 <= 7
 f1 : a1.length <= 32 /\ ∀ x ∈ a1, -131072 <= x /\ x <= 131072
 f2 : a2.length <= 32 /\ ∀ x ∈ a2, -131072 <= x /\ x <= 131072
theorem pp14_of {n cnt : Nat} {kind : Int} {gains pulses : List Int} {ltps : List (List Int)} {a1 a2 : List Int} (h : GoodR n cnt kind gains pulses ltps a1 a2) {k : Nat} (hk : k < cnt) : (pp14 n kind pulses k).length = n /\ ∀ x ∈ pp14 n kind pulses k, -16 <= x /\ x <= 16 := by
 unfold pp14
 split
 ·exact ⟨by simp, fun x hx => by rw [List.eq_of_mem_replicate hx]; omega⟩
 ·rename_i h0
  obtain ⟨h1, h2⟩ := h.p h0
  have : (k + 1) * n <= n * cnt := by rw [Nat.mul_comm n]; exact Nat.mul_le_mul_right _ hk
  rw [Nat.succ_mul] at this
  exact ⟨by rw [List.length_take, List.length_drop]; omega, fun x hx => h2 x (List.mem_of_mem_drop (List.mem_of_mem_take hx))⟩
theorem part14_good {n cnt : Nat} {kind : Int} {gains pulses : List Int} {ltps : List (List Int)} {a1 a2 : List Int} (h : GoodR n cnt kind gains pulses ltps a1 a2) {k : Nat} (hk : k < cnt) :
  GoodP (gz (c63 (gains.getD k 0))) (lag14 kind ltps k) ((tp14 kind ltps k).getD 0 0) ((tp14 kind ltps k).getD 1 0) ((tp14 kind ltps k).getD 2 0) ((tp14 kind ltps k).getD 3 0) ((tp14 kind ltps k).getD 4 0) (pp14 n kind pulses k) (if 2 * k < cnt then a1 else a2) /\ tapB (tp14 kind ltps k) := by
 obtain ⟨z0, z1⟩ := gz_range (c63_range (gains.getD k 0)).1 (c63_range (gains.getD k 0)).2
 obtain ⟨p0, p1⟩ := pp14_of h hk
 have n0 := h.n0
 have n1 := h.n1
 have hL : (lag14 kind ltps k = 0 \/ 3 <= lag14 kind ltps k /\ lag14 kind ltps k <= 318) /\ tapB (tp14 kind ltps k) := by
  unfold lag14 tp14
  by_cases h2 : kind = 2
  ·obtain ⟨l1, l2⟩ := h.l h2
   have hm : ltps.getD k [] ∈ ltps := by rw [List.getD_eq_getElem?_getD, List.getElem?_eq_getElem (by omega)]; exact List.getElem_mem (by omega)
   obtain ⟨b1, b2, b3, b4⟩ := l2 _ hm
   rw [if_pos h2, if_pos h2]
   exact ⟨Or.inr ⟨b1, b2⟩, tapV_B b3 b4⟩
  ·rw [if_neg h2, if_neg h2]
   exact ⟨Or.inl rfl, by decide⟩
 obtain ⟨hl, ht⟩ := hL
 refine ⟨⟨by omega, by omega, p1, z0, by omega, hl, ht.1, ht.2.1, ht.2.2.1, ht.2.2.2.1, ht.2.2.2.2.1, ?_, ?_⟩, ht⟩
 ·split
  ·exact h.f1.1
  ·exact h.f2.1
 ·split
  ·exact h.f1.2
  ·exact h.f2.2
theorem part14_len {n cnt : Nat} {kind : Int} {gains pulses : List Int} {ltps : List (List Int)} {a1 a2 : List Int} (h : GoodR n cnt kind gains pulses ltps a1 a2) {k : Nat} (hk : k < cnt) {v : List Int} (hv : v.length = 352) : (part14 n cnt kind gains pulses ltps a1 a2 k v).1.length = 352 /\ (part14 n cnt kind gains pulses ltps a1 a2 k v).2.length = n := by
 have := run14_len (gz (c63 (gains.getD k 0))) (lag14 kind ltps k) (tp14 kind ltps k) (if 2 * k < cnt then a1 else a2) (pp14 n kind pulses k) v [] hv
 refine ⟨this.1, ?_⟩
 unfold part14
 rw [this.2, (pp14_of h hk).1]
 simp
theorem pr14_len {n cnt : Nat} {kind : Int} {gains pulses : List Int} {ltps : List (List Int)} {a1 a2 : List Int} (h : GoodR n cnt kind gains pulses ltps a1 a2) : ∀ (c k : Nat) (v o : List Int), k + c <= cnt -> v.length = 352 -> (pr14 n cnt kind gains pulses ltps a1 a2 c k v o).1.length = 352 /\ (pr14 n cnt kind gains pulses ltps a1 a2 c k v o).2.length = o.length + n * c
 | 0, k, v, o, _, hv => ⟨hv, rfl⟩
 | c + 1, k, v, o, hk, hv => by
  obtain ⟨h1, h2⟩ := part14_len h (k := k) (by omega) hv
  obtain ⟨h3, h4⟩ := pr14_len h c (k + 1) _ (o ++ (part14 n cnt kind gains pulses ltps a1 a2 k v).2) (by omega) h1
  refine ⟨h3, ?_⟩
  simp only [pr14]
  rw [h4, List.length_append, h2, Nat.mul_succ]
  omega
theorem copied {n : Nat} {P : List Int} {j : Nat} (h : j + n <= P.length) : List.take (List.replicate n (0 : Int)).length (List.take (P.length - j) (List.drop j P)) ++ List.drop (min (List.take (P.length - j) (List.drop j P)).length (List.replicate n (0 : Int)).length) (List.replicate n (0 : Int)) = (P.drop j).take n := by
 have e1 : List.take (P.length - j) (List.drop j P) = List.drop j P := List.take_of_length_le (by rw [List.length_drop]; omega)
 have e2 : List.drop n (List.replicate n (0 : Int)) = [] := List.drop_eq_nil_of_le (by simp)
 rw [List.length_replicate, e1, List.length_drop, Nat.min_eq_right (by omega), e2, List.append_nil]
theorem ploop_F (hN : 30000 <= N) {n cnt : Nat} {kind : Int} {gains pulses : List Int} {ltps : List (List Int)} {a1 a2 : List Int} (h : GoodR n cnt kind gains pulses ltps a1 a2) {rate one btw : Int} {fresh : Bool} {two ahead : List Int} : ∀ (nn k : Nat) (gain : Int) (v o : List Int), k <= cnt -> v.length = 352 -> o.length = n * k -> cnt - k < nn ->
  Rc.plplay.loop12 N nn (n : Int) (cnt : Int) rate kind one btw fresh gains two gains pulses ltps (k : Int) gain v a1 a2 o ahead =
   some ((gains.drop k).getLastD gain, (pr14 n cnt kind gains pulses ltps a1 a2 (cnt - k) k v o).1, a1, a2, (pr14 n cnt kind gains pulses ltps a1 a2 (cnt - k) k v o).2, ahead)
 | 0, k, gain, v, o, _, _, _, hh => by omega
 | nn + 1, k, gain, v, o, hk, hv, ho, hh => by
  have n0 := h.n0
  have n1 := h.n1
  have hc := h.c
  have hg := h.g
  unfold Rc.plplay.loop12
  simp only [br_dec, br_bne, br_beq, chkI_same, chkL_same, chkB_same, chkR_same]
  by_cases c : k < cnt
  ·have hnk : n * k <= 100 * 100 := Nat.mul_le_mul n1 (by omega)
   have hkn : k * n = n * k := Nat.mul_comm _ _
   have hn1 : n * (k + 1) = n * k + n := Nat.mul_succ n k
   have hsp : n * (k + 1) <= n * cnt := Nat.mul_le_mul_left _ c
   obtain ⟨q1, q2⟩ := part14_len h c hv
   obtain ⟨gp, gt⟩ := part14_good h c
   have ih := ploop_F hN h (rate := rate) (one := one) (btw := btw) (fresh := fresh) (two := two) (ahead := ahead) nn (k + 1) (gains.getD k 0) (part14 n cnt kind gains pulses ltps a1 a2 k v).1 (o ++ (part14 n cnt kind gains pulses ltps a1 a2 k v).2) (by omega) q1 (by rw [List.length_append]; omega) (by omega)
   have e2 : (gains.drop (k + 1)).getLastD (gains.getD k 0) = (gains.drop k).getLastD gain := by rw [drop_cons (show k < gains.length by omega), List.getLastD_cons]
   have e3 : cnt - k = (cnt - (k + 1)) + 1 := by omega
   rw [e2] at ih
   rw [e3]
   simp only [pr14]
   have hrun := syrun_F hN gp hv
   rw [<- gt.2.2.2.2.2] at hrun
   have hrun : Rc.syrun.F N (gz (c63 (gains.getD k 0))) (lag14 kind ltps k) ((tp14 kind ltps k).getD 0 0) ((tp14 kind ltps k).getD 1 0) ((tp14 kind ltps k).getD 2 0) ((tp14 kind ltps k).getD 3 0) ((tp14 kind ltps k).getD 4 0) (pp14 n kind pulses k) (if 2 * k < cnt then a1 else a2) v = some (0, part14 n cnt kind gains pulses ltps a1 a2 k v) := hrun
   generalize part14 n cnt kind gains pulses ltps a1 a2 k v = R at ih hrun q1 q2
   rw [if_pos (by omega), chk_pos (by omega), chk_pos (by omega), gloud_F (by omega), obind_of, i64 (x := (2 : Int) * k) (by omega) (by omega), i64 (x := (k : Int) * n) (by omega) (by omega), i64 (x := (k : Int) + 1) (by omega) (by omega), Int.toNat_natCast, Int.toNat_natCast]
   have hz : ((k : Int) * (n : Int)).toNat = k * n := by rw [<- Int.natCast_mul, Int.toNat_natCast]
   have hC : o.length + R.2.length <= 17592186043904 := by omega
   rw [hz]
   have hcp : kind ≠ 0 -> List.take (List.replicate n (0 : Int)).length (List.take (pulses.length - k * n) (List.drop (k * n) pulses)) ++ List.drop (min (List.take (pulses.length - k * n) (List.drop (k * n) pulses)).length (List.replicate n (0 : Int)).length) (List.replicate n (0 : Int)) = pp14 n kind pulses k := fun h0 => by
    rw [copied (by have := (h.p h0).1; omega)]
    unfold pp14
    rw [if_neg h0]
   have hz0 : kind = 0 -> List.replicate n (0 : Int) = pp14 n kind pulses k := fun h0 => by unfold pp14; rw [if_pos h0]
   have hck : kind ≠ 0 -> ((0 : Int) <= (k : Int) * n /\ (k : Int) * n <= (pulses.length : Int)) := fun h0 => by
    have := (h.p h0).1
    have : (k : Int) * n = ((k * n : Nat) : Int) := by simp
    omega
   have hlt : kind = 2 -> ((0 : Int) <= (k : Int) /\ (k : Int) < (ltps.length : Int)) /\ Rc.ttaps.F N ((ltps.getD k []).tail.headD 0) = some ((tp14 kind ltps k).getD 0 0, (tp14 kind ltps k).getD 1 0, (tp14 kind ltps k).getD 2 0, (tp14 kind ltps k).getD 3 0, (tp14 kind ltps k).getD 4 0) /\ (ltps.getD k []).headD 0 = lag14 kind ltps k := fun h2 => by
    obtain ⟨l1, l2⟩ := h.l h2
    have hm : ltps.getD k [] ∈ ltps := by rw [List.getD_eq_getElem?_getD, List.getElem?_eq_getElem (by omega)]; exact List.getElem_mem (by omega)
    obtain ⟨b1, b2, b3, b4⟩ := l2 _ hm
    refine ⟨by omega, ?_, by unfold lag14; rw [if_pos h2]⟩
    rw [ttaps_F b3 b4]
    unfold tp14
    rw [if_pos h2]
    rfl
   have hl0 : kind ≠ 2 -> (tp14 kind ltps k).getD 0 0 = 0 /\ (tp14 kind ltps k).getD 1 0 = 0 /\ (tp14 kind ltps k).getD 2 0 = 0 /\ (tp14 kind ltps k).getD 3 0 = 0 /\ (tp14 kind ltps k).getD 4 0 = 0 /\ lag14 kind ltps k = 0 := fun h2 => by
    unfold tp14 lag14
    rw [if_neg h2, if_neg h2]
    exact ⟨rfl, rfl, rfl, rfl, rfl, rfl⟩
   by_cases d : 2 * k < cnt
   ·rw [if_pos (by omega)]
    rw [if_pos d] at hrun
    by_cases k0 : kind = 0
    ·have k2 : kind ≠ 2 := by omega
     obtain ⟨t0, t1, t2, t3, t4, t5⟩ := hl0 k2
     rw [t0, t1, t2, t3, t4, t5] at hrun
     rw [if_pos k0, if_neg k2, hz0 k0]
     refine obind_step hrun ?_
     rw [chk_pos hC]
     exact ih
    ·rw [if_neg k0, chk_pos (hck k0), hcp k0]
     by_cases k2 : kind = 2
     ·obtain ⟨t0, t1, t2⟩ := hlt k2
      rw [if_pos k2, chk_pos t0, chk_pos t0, t1, obind_of, t2]
      refine obind_step hrun ?_
      rw [chk_pos hC]
      exact ih
     ·obtain ⟨t0, t1, t2, t3, t4, t5⟩ := hl0 k2
      rw [t0, t1, t2, t3, t4, t5] at hrun
      rw [if_neg k2]
      refine obind_step hrun ?_
      rw [chk_pos hC]
      exact ih
   ·rw [if_neg (by omega)]
    rw [if_neg d] at hrun
    by_cases k0 : kind = 0
    ·have k2 : kind ≠ 2 := by omega
     obtain ⟨t0, t1, t2, t3, t4, t5⟩ := hl0 k2
     rw [t0, t1, t2, t3, t4, t5] at hrun
     rw [if_pos k0, if_neg k2, hz0 k0]
     refine obind_step hrun ?_
     rw [chk_pos hC]
     exact ih
    ·rw [if_neg k0, chk_pos (hck k0), hcp k0]
     by_cases k2 : kind = 2
     ·obtain ⟨t0, t1, t2⟩ := hlt k2
      rw [if_pos k2, chk_pos t0, chk_pos t0, t1, obind_of, t2]
      refine obind_step hrun ?_
      rw [chk_pos hC]
      exact ih
     ·obtain ⟨t0, t1, t2, t3, t4, t5⟩ := hl0 k2
      rw [t0, t1, t2, t3, t4, t5] at hrun
      rw [if_neg k2]
      refine obind_step hrun ?_
      rw [chk_pos hC]
      exact ih
  ·have hkk : k = cnt := by omega
   rw [if_neg (by omega), List.drop_eq_nil_of_le (by omega), hkk, Nat.sub_self]
   rfl
structure Mid (N : Nat) (rate one btw : Int) (two A l h a1 a2 : List Int) : Prop where
 d : ∃ e, Rc.ldecode.F N (ord14 rate : Int) one two = some (e, l)
 b : ∃ e, Rc.lbetween.F N btw A l = some (e, h)
 f1 : ∃ e, Rc.lfrom.F N h = some (e, a1)
 f2 : ∃ e, Rc.lfrom.F N l = some (e, a2)
 ll : l.length = ord14 rate
 g1 : a1.length <= 32 /\ ∀ x ∈ a1, -131072 <= x /\ x <= 131072
 g2 : a2.length <= 32 /\ ∀ x ∈ a2, -131072 <= x /\ x <= 131072
def wd14 (rate : Int) : Nat := if rate = 8000 then 40 else 80
theorem wd14_of {rate ms : Int} (h : May14 rate ms) : rate.tdiv 200 = (wd14 rate : Int) /\ 1 <= wd14 rate /\ wd14 rate <= 100 /\ wd14 rate * cnt14 ms = 16 * blk14 rate ms := by
 obtain ⟨rfl | rfl, rfl | rfl⟩ := h <;> decide
theorem mid_T (hN : 30000 <= N) {rate ms kind one btw : Int} {two gains pulses A : List Int} {ltps : List (List Int)} (hg : GoodF rate ms kind one btw two gains pulses ltps) (ha : A.length = ord14 rate) : ∃ l h a1 a2, Mid N rate one btw two A l h a1 a2 := by
 have ho := ord14_le rate
 obtain ⟨r3, e3, p4⟩ := ldecode_T (N := N) hN hg.may.1 hg.on.1 hg.on.2 hg.tw.1 hg.tw.2
 obtain ⟨r4, e4, p5⟩ := lbetween_T (N := N) hN (w := btw) (a := A) (b := r3.2) (by omega) (by omega) hg.bt.1 hg.bt.2
 have hord : ord14 rate = 10 \/ ord14 rate = 16 := by rcases hg.may.1 with rfl | rfl <;> decide
 obtain ⟨r5, e5, p6, p7⟩ := lfrom_T (N := N) hN (l := r4.2) (by omega)
 obtain ⟨r6, e6, p8, p9⟩ := lfrom_T (N := N) hN (l := r3.2) (by omega)
 exact ⟨r3.2, r4.2, r5.2, r6.2, ⟨r3.1, e3⟩, ⟨r4.1, e4⟩, ⟨r5.1, e5⟩, ⟨r6.1, e6⟩, p4, ⟨by omega, p7⟩, ⟨by omega, p9⟩⟩
theorem goodR_of {rate ms kind one btw : Int} {two gains pulses : List Int} {ltps : List (List Int)} (hg : GoodF rate ms kind one btw two gains pulses ltps) {a1 a2 : List Int} (g1 : a1.length <= 32 /\ ∀ x ∈ a1, -131072 <= x /\ x <= 131072) (g2 : a2.length <= 32 /\ ∀ x ∈ a2, -131072 <= x /\ x <= 131072) : GoodR (wd14 rate) (cnt14 ms) kind gains pulses ltps a1 a2 := by
 obtain ⟨m1, m2, m3, m4, m5, m6, m7, m8⟩ := may_facts hg.may
 obtain ⟨w0, w1, w2, w3⟩ := wd14_of hg.may
 have hL := lags_of rate
 refine ⟨w1, w2, by omega, hg.ga.1, fun h0 => ?_, fun h2 => ?_, g1, g2⟩
 ·have := hg.pu
  rw [if_neg h0] at this
  exact ⟨by rw [w3]; exact this.1, goodB_mem this.2⟩
 ·have := hg.lt
  rw [if_pos h2] at this
  refine ⟨this.1, fun r hr => ?_⟩
  have hr := this.2 r hr
  have hlo : lo8 rate = 16 \/ lo8 rate = 32 := by rcases hg.may.1 with rfl | rfl <;> decide
  omega
theorem play_F (hN : 30000 <= N) {rate ms kind one btw gain : Int} {fresh : Bool} {two gains pulses voice ahead : List Int} {ltps : List (List Int)} (hg : GoodF rate ms kind one btw two gains pulses ltps) (hv : voice.length = 352) {l h a1 a2 : List Int} (hm : Mid N rate one btw two (if fresh then ah14 (ord14 rate) else ahead) l h a1 a2) (hl : ltps.length <= 1000000) :
  Rc.plplay.F N ms kind one btw rate gain fresh two gains pulses voice ahead ltps =
   some (0, gains.getLastD 20, (pr14 (wd14 rate) (cnt14 ms) kind gains pulses ltps a1 a2 (cnt14 ms) 0 (if fresh then List.replicate 352 0 else voice) []).1, pcm14 (pr14 (wd14 rate) (cnt14 ms) kind gains pulses ltps a1 a2 (cnt14 ms) 0 (if fresh then List.replicate 352 0 else voice) []).2, l) := by
 obtain ⟨m1, m2, m3, m4, m5, m6, m7, m8⟩ := may_facts hg.may
 obtain ⟨w0, w1, w2, w3⟩ := wd14_of hg.may
 have hgl := hg.ga.1
 have hgd := (spgood_F (N := N) hN (fresh := fresh) hl).1 hg
 have hR := goodR_of hg hm.g1 hm.g2
 obtain ⟨x1, e1⟩ := hm.d
 obtain ⟨x2, e2⟩ := hm.b
 obtain ⟨x3, e3⟩ := hm.f1
 obtain ⟨x4, e4⟩ := hm.f2
 unfold Rc.plplay.F
 rw [hgd, obind_of, br_not, if_pos rfl]
 have glast : ∀ d : Int, (gains.drop 0).getLastD d = gains.getLastD 20 := fun d => by
  rw [List.drop_zero]; exact last_any (by omega) d 20
 have hlp := fun (g : Int) (V A : List Int) (hV : V.length = 352) => ploop_F hN hR (rate := rate) (one := one) (btw := btw) (fresh := fresh) (two := two) (ahead := A) N 0 g V [] (Nat.zero_le _) hV rfl (by omega)
 simp only [chkI_same, chkL_same]
 rw [w0, i64 (x := (wd14 rate : Int)) (by omega) (by omega), hgl]
 cases fresh with
 | true =>
  simp only [if_true] at e2 ⊢
  rw [br_true, plreset_F hN hv, obind_of, torder_F, obind_of, e1, obind_of]
  simp only
  rw [e2, obind_of]
  simp only
  rw [e3, obind_of, e4, obind_of]
  refine obind_step (hlp 20 (List.replicate 352 0) _ List.length_replicate) ?_
  have hlen := (pr14_len hR (cnt14 ms) 0 (List.replicate 352 0) [] (by omega) List.length_replicate).2
  simp only [Nat.sub_zero, glast]
  rw [sypcm_F hN (by rw [hlen]; simp only [List.length_nil]; omega), obind_of]
 | false =>
  simp only [Bool.false_eq_true, if_false] at e2 ⊢
  rw [br_false, torder_F, obind_of, e1, obind_of]
  simp only
  rw [e2, obind_of]
  simp only
  rw [e3, obind_of, e4, obind_of]
  refine obind_step (hlp gain voice _ hv) ?_
  have hlen := (pr14_len hR (cnt14 ms) 0 voice [] (by omega) hv).2
  simp only [Nat.sub_zero, glast]
  rw [sypcm_F hN (by rw [hlen]; simp only [List.length_nil]; omega), obind_of]
end
end Go.Pl
/-
 Layer 14: the reference reads a frame alike; SpeechReads.
 Conditions: none.
-/
namespace Go.Pl
open Go.Eng Go.Proofs
section
variable {N : Nat} {b : List Int}
theorem spreadf_not {rate ms was rng val last front back window waiting count : Int} {bad : Bool} (hm : ¬ May14 rate ms) :
  Rc.spreadf.F N rate ms was rng val last front back window waiting count bad b = some (0, 0, 0, 1, rng, val, last, front, back, window, waiting, count, false, bad, [], [], [], []) := by
 unfold Rc.spreadf.F
 rw [spmay_F, obind_of, br_not, if_neg (by simpa [May14] using hm)]
 simp only [chkL_same]
end
theorem fr14_good {b : List Int} (hb : Bytes b) {rate ms : Int} (hm : May14 rate ms) (was : Int) {s : RS} {k : Nat} (h : s.Ok k) (hk : k <= 100) :
  GoodF rate ms (fr14 b rate ms was s).kind (fr14 b rate ms was s).one (fr14 b rate ms was s).btw (fr14 b rate ms was s).two (fr14 b rate ms was s).gains (fr14 b rate ms was s).pulses (fr14 b rate ms was s).ltps := by
 obtain ⟨a1, a2, a3, a4, a5, a6, a7, a8, a9, b1, b2, b3, b4, b5, b6, b7⟩ := fr14_facts hb hm was h hk
 refine ⟨hm, ⟨a2, a3⟩, ⟨a4, a5⟩, ⟨a6, a7⟩, ⟨a8, a9⟩, ⟨b1, b2⟩, ?_, ?_⟩
 ·split
  ·rename_i h2
   refine ⟨b4 h2, fun r hr => ?_⟩
   obtain ⟨x, t, rfl, h3, h4, h5, h6⟩ := b5 r hr
   exact ⟨h3, h4, h5, h6⟩
  ·rename_i h2; exact b3 h2
 ·split
  ·rename_i h0; exact b6 h0
  ·rename_i h0; exact b7 h0
def RS.new (b : List Int) : RS := ⟨Q.new b, W.new, 1, false⟩
theorem RS.new_ok {b : List Int} (hb : Bytes b) : (RS.new b).Ok 1 := ⟨Q.new_ok hb, W.new_ok, by show (0 : Int) <= 1; decide, by show (1 : Int) <= 32 * ((1 : Nat) : Int); decide, by have := (Q.new_rng b).2; simp only [RS.new]; omega⟩
theorem RS.new_ct (b : List Int) : (RS.new b).ct = cnew b := by rw [cnew_eq]; rfl
end Go.Pl
/-
 Layer 14: a player's copies; whatever a frame is, it is played or refused.
 Conditions: none.
-/
namespace Go.Pl
open Go.Eng Go.Proofs
section
variable {N : Nat}
structure GoodS (rate : Int) (voice ahead : List Int) : Prop where
 r : rate = 8000 \/ rate = 16000
 v : voice.length = 352
 a : ahead.length = ord14 rate
theorem play_T (hN : 30000 <= N) {rate ms kind one btw gain : Int} {fresh : Bool} {two gains pulses voice ahead : List Int} {ltps : List (List Int)} (hs : GoodS rate voice ahead) (hl : ltps.length <= 1000) :
  Sat (Rc.plplay.F N ms kind one btw rate gain fresh two gains pulses voice ahead ltps) fun r => GoodS rate r.2.2.1 r.2.2.2.2 /\ r.2.2.2.1.length <= 480 /\ (r.1 = 0 \/ r.1 = 1 /\ ¬ GoodF rate ms kind one btw two gains pulses ltps) := by
 have hsp := spgood_F (N := N) hN (rate := rate) (ms := ms) (kind := kind) (one := one) (btw := btw) (fresh := fresh) (two := two) (gains := gains) (pulses := pulses) (ltps := ltps) (by omega)
 rcases Classical.em (GoodF rate ms kind one btw two gains pulses ltps) with hg | hg
 ·have hA : (if fresh then ah14 (ord14 rate) else ahead).length = ord14 rate := by
   cases fresh with
   | true => exact ah14_len _
   | false => exact hs.a
  obtain ⟨l, h, a1, a2, hm⟩ := mid_T hN hg hA
  have hV : (if fresh then List.replicate 352 0 else voice).length = 352 := by
   cases fresh with
   | true => exact List.length_replicate
   | false => exact hs.v
  obtain ⟨m1, m2, m3, m4, m5, m6, m7, m8⟩ := may_facts hg.may
  obtain ⟨w0, w1, w2, w3⟩ := wd14_of hg.may
  obtain ⟨p1, p2⟩ := pr14_len (goodR_of hg hm.g1 hm.g2) (cnt14 ms) 0 _ [] (by omega) hV
  refine ⟨_, play_F hN hg hs.v hm (by omega), ⟨hs.r, p1, hm.ll⟩, ?_, Or.inl rfl⟩
  simp only [pcm14, List.length_map]
  rw [p2, w3]
  simp only [List.length_nil]
  omega
 ·unfold Rc.plplay.F
  rw [hsp.2 hg (by omega), obind_of, br_not, if_neg (by simp)]
  simp only [chkI_same]
  exact ⟨_, rfl, hs, by simp, Or.inr ⟨rfl, hg⟩⟩
theorem sysame_F {v : List Int} (hv : v.length = 352) : Rc.sysame.F N v v = some true := by
 unfold Rc.sysame.F
 simp [chk, hv, chkL]
theorem sycopy_F {v : List Int} (hv : v.length = 352) : Rc.sycopy.F N v = some v := by
 unfold Rc.sycopy.F
 have e : List.take 352 (List.drop 0 v) = v := by rw [List.drop_zero, List.take_of_length_le (by omega)]
 have e2 : List.drop (0 + v.length) (List.replicate 352 (0 : Int)) = [] := List.drop_eq_nil_of_le (by rw [List.length_replicate]; omega)
 rw [chk_pos (by omega), e, chk_pos (by omega), chkL_same, e2, List.take_zero, List.append_nil, List.nil_append]
theorem plcopy_F {rate gain : Int} {v a : List Int} (hv : v.length = 352) (ha : a.length <= 1000) : Rc.plcopy.F N rate gain v a = some (rate, gain, v, a) := by
 unfold Rc.plcopy.F
 rw [sycopy_F hv, obind_of, chk_pos (by omega)]
 simp only [chkI_same, chkL_same]
theorem plsame_loop {e1 e2 e3 e4 : Int} {f1 f2 f3 f4 : List Int} {rate gain : Int} {v a : List Int} (ha : a.length <= 1000) : ∀ (nn k : Nat), k <= a.length -> a.length - k < nn ->
  Rc.plsame.loop4 N nn e1 e2 e3 e4 f1 f2 f3 f4 (a.length : Int) rate gain rate gain v a v a (k : Int) false = some (.inl false)
 | 0, k, _, h => by omega
 | nn + 1, k, hk, h => by
  unfold Rc.plsame.loop4
  simp only [br_dec, br_bne, chkI_same, chkL_same]
  by_cases c : k < a.length
  ·rw [if_pos (by omega), chk_pos (by omega), chk_pos (by omega), if_pos trivial, i64 (x := (k : Int) + 1) (by omega) (by omega)]
   exact plsame_loop ha nn (k + 1) (by omega) (by omega)
  ·rw [if_neg (by omega)]
theorem plsame_F (hN : 30000 <= N) {rate gain : Int} {v a : List Int} (hv : v.length = 352) (ha : a.length <= 1000) : Rc.plsame.F N rate gain rate gain v a v a = some (rate, gain, rate, gain, true, v, a, v, a) := by
 unfold Rc.plsame.F
 simp only [br_bne]
 rw [if_pos trivial, if_pos trivial, sysame_F hv, obind_of, br_not, if_pos rfl, if_pos trivial]
 have := plsame_loop (N := N) (e1 := rate) (e2 := gain) (e3 := rate) (e4 := gain) (f1 := v) (f2 := a) (f3 := v) (f4 := a) (rate := rate) (gain := gain) (v := v) (a := a) ha N 0 (Nat.zero_le _) (by omega)
 rw [show ((0 : Nat) : Int) = 0 from rfl] at this
 rw [this]
 rfl
end
end Go.Pl
/-
 Layer 14: frames out of bytes, played one after the other.
 Conditions: none.
-/
namespace Go.Pl
open Go.Eng Go.Proofs
def StepsB (l : List (List Int)) : Prop := ∀ r ∈ l, Bytes r.tail /\ r.tail.length < 140737488351233
abbrev fn14 (b : List Int) (rate ms was : Int) : FR := fr14 b rate ms was (RS.new b)
abbrev FR.err (f : FR) (b : List Int) : Rc.spreadf.R := (f.kind, f.one, f.btw, 0, f.s.q.rng, f.s.q.val, f.s.q.last, fr b f.s.q.m, fr b f.s.w.k, f.s.w.win, (f.s.w.wai : Int), f.s.ct, f.fresh, f.s.bad, f.two, f.gains, f.pulses, f.ltps)
theorem read_new {N : Nat} (hN : 30000 <= N) {b : List Int} (hb : Bytes b) (hl : b.length < 140737488351233) {rate ms : Int} (hm : May14 rate ms) (was : Int) :
  Rc.spreadf.F N rate ms was (Q.new b).rng (Q.new b).val (Q.new b).last (fr b (Q.new b).m) 0 0 0 (cnew b) false b = some ((fn14 b rate ms was).err b) := by
 have h := spreadf_F (N := N) hb hl hm was (RS.new_ok hb) (by omega) hN
 rw [RS.new_ct] at h
 exact h
theorem fn14_good {b : List Int} (hb : Bytes b) {rate ms : Int} (hm : May14 rate ms) (was : Int) :
  GoodF rate ms (fn14 b rate ms was).kind (fn14 b rate ms was).one (fn14 b rate ms was).btw (fn14 b rate ms was).two (fn14 b rate ms was).gains (fn14 b rate ms was).pulses (fn14 b rate ms was).ltps := fr14_good hb hm was (RS.new_ok hb) (by omega)
theorem good_ltps {rate ms kind one btw : Int} {two gains pulses : List Int} {ltps : List (List Int)} (hG : GoodF rate ms kind one btw two gains pulses ltps) : ltps.length <= 4 := by
 have := hG.lt
 have := (may_facts hG.may).2.2.2.1
 split at * <;> simp_all
theorem plgain_G {N : Nat} {rate gain : Int} {voice ahead : List Int} : Rc.plgain.F N rate gain voice ahead = some gain := by
 unfold Rc.plgain.F
 simp only [chkI_same, chkL_same]
section
variable {N : Nat}
theorem played_in (hN : 30000 <= N) {l : List (List Int)} (hl : StepsB l) (hl1 : l.length <= 1000) {i : Nat} (hi : i < l.length) {rate : Int} : ∀ (d nn : Nat) (s7 : Int) (gain : Int) (v o a : List Int), d <= 2 -> s7 + 8000 * d = 24000 -> d < nn -> GoodS rate v a -> o.length <= 1000000 ->
  Sat (Rc.played14.loop6 N nn (i : Int) rate l s7 gain v o a) fun r => GoodS rate r.2.1 r.2.2.2 /\ r.2.2.1.length <= o.length + 480
 | d, 0, s7, gain, v, o, a, _, _, h, _, _ => by omega
 | 0, nn + 1, s7, gain, v, o, a, _, hs, _, hS, _ => by
  unfold Rc.played14.loop6
  simp only [br_dec, chkI_same, chkR_same]
  rw [if_neg (by omega)]
  exact Sat.some ⟨hS, by simp⟩
 | d + 1, nn + 1, s7, gain, v, o, a, hd, hs, hn, hS, ho => by
  have hm : l.getD i [] ∈ l := by rw [List.getD_eq_getElem?_getD, List.getElem?_eq_getElem hi]; exact List.getElem_mem hi
  obtain ⟨hb, hbl⟩ := hl _ hm
  have ih := fun g v' a' (h : GoodS rate v' a') => played_in hN hl hl1 hi d nn (s7 + 8000) g v' o a' (by omega) (by omega) (by omega) h ho
  unfold Rc.played14.loop6
  simp only [br_dec, br_bne, br_beq, chkI_same, chkR_same]
  rw [if_pos (by omega), chk_pos (by omega), Int.toNat_natCast, new_F hb hbl (by omega), obind_of, chk_pos (by omega), plgain_G, obind_of, i64 (x := s7 + 8000) (by omega) (by omega)]
  simp only
  rcases Classical.em (¬ May14 s7 ((l.getD i []).headD 0)) with hm | hm
  ·rw [spreadf_not hm, obind_of]
   simp only
   rw [if_neg (by decide)]
   exact ih _ _ _ hS
  have hm := Classical.not_not.1 hm
  have hG := fn14_good hb hm gain
  rw [read_new hN hb hbl hm gain, obind_of]
  simp only
  rw [if_pos trivial, chk_pos (by omega)]
  by_cases c : ((l.getD i []).tail.length : Int) > 1500
  ·rw [if_pos c]
   exact ih _ _ _ hS
  rw [if_neg c, chk_pos (by omega)]
  refine Sat.obind (play_T hN hS (by have := good_ltps hG; omega)) fun r hr => ?_
  obtain ⟨r1, r2, r3⟩ := hr
  split
  ·rw [chk_pos (by omega)]
   exact Sat.some ⟨r1, by rw [List.length_append]; omega⟩
  ·exact ih _ _ _ r1
theorem played_out (hN : 30000 <= N) {l : List (List Int)} (hl : StepsB l) (hl1 : l.length <= 1000) {rate : Int} : ∀ (nn i : Nat) (gain : Int) (v o a : List Int), i <= l.length -> l.length - i < nn -> GoodS rate v a -> o.length <= 480 * i ->
  Sat (Rc.played14.loop3 N nn rate l (i : Int) gain v o a) fun r => GoodS rate r.2.1 r.2.2.2 /\ r.2.2.1.length <= 480 * l.length
 | 0, i, gain, v, o, a, _, h, _, _ => by omega
 | nn + 1, i, gain, v, o, a, hi, h, hS, ho => by
  unfold Rc.played14.loop3
  simp only [br_dec, chkI_same, chkR_same]
  by_cases c : i < l.length
  ·rw [if_pos (by omega)]
   refine Sat.obind (played_in hN hl hl1 c 2 N 8000 gain v o a (Nat.le_refl _) (by omega) (by omega) hS (by omega)) fun r hr => ?_
   rw [i64 (x := (i : Int) + 1) (by omega) (by omega)]
   exact played_out hN hl hl1 nn (i + 1) _ _ _ _ (by omega) (by omega) hr.1 (by omega)
  ·rw [if_neg (by omega)]
   exact Sat.some ⟨hS, by simp only; omega⟩
theorem played_T (hN : 30000 <= N) {l : List (List Int)} (hl : StepsB l) (hl1 : l.length <= 1000) {rate gain : Int} {v a : List Int} (hS : GoodS rate v a) :
  Sat (Rc.played14.F N rate gain v a l) fun r => GoodS rate r.2.1 r.2.2.2 /\ r.2.2.1.length <= 480 * l.length := by
 unfold Rc.played14.F
 simp only [chkI_same]
 have h := played_out hN hl hl1 N 0 gain v [] a (Nat.zero_le _) (by omega) hS (by simp)
 rw [show ((0 : Nat) : Int) = 0 from rfl] at h
 exact Sat.obind h fun r hr => Sat.some hr
end
theorem ord14_pos {rate : Int} (h : ¬ (ord14 rate : Int) = 0) : rate = 8000 \/ rate = 16000 := by
 unfold ord14 at h
 split at h
 ·exact Or.inl (by assumption)
 ·split at h
  ·exact Or.inr (by assumption)
  ·simp at h
theorem synew_F {N : Nat} : Rc.synew.F N = some (List.replicate 352 0) := rfl
theorem first_S {rate : Int} (h : rate = 8000 \/ rate = 16000) : GoodS rate (List.replicate 352 0) (ah14 (ord14 rate)) := ⟨h, List.length_replicate, ah14_len _⟩
theorem GoodS.al {rate : Int} {v a : List Int} (h : GoodS rate v a) : a.length <= 1000 := by have := h.a; have := ord14_le rate; omega
end Go.Pl
/-
 Layer 14: SpeechCopies.
 Conditions: none.
-/
namespace Go.Pl
open Go.Eng Go.Proofs
theorem speechCopies_pure (rate : Int) (l more : List (List Int)) (hl : StepsB l) (hm : StepsB more) : ∃ N, Rc.speechCopies.F N rate l more = some true := by
 refine ⟨30000, ?_⟩
 have hN : 30000 <= 30000 := Nat.le_refl _
 unfold Rc.speechCopies.F
 rw [awake14_F (by omega), obind_of]
 simp only [br_not, if_true, br_dec, br_beq]
 by_cases c1 : (l.length : Int) > 3
 ·rw [if_pos c1]
 rw [if_neg c1]
 by_cases c2 : (more.length : Int) > 2
 ·rw [if_pos c2]
 rw [if_neg c2, torder_F, obind_of]
 by_cases c3 : (ord14 rate : Int) = 0
 ·rw [if_pos c3]
 have hr := ord14_pos c3
 have hS0 := first_S hr
 rw [if_neg c3]
 simp only [torder_F, obind_of, if_neg c3, synew_F, plreset_F hN List.length_replicate]
 obtain ⟨r5, e5, s5, o5⟩ := played_T hN hl (by omega) (rate := rate) (gain := 20) hS0
 rw [e5, obind_of, plcopy_F s5.v s5.al, obind_of]
 simp only [obind_of]
 obtain ⟨r8, e8, s8, o8⟩ := played_T hN hm (by omega) (rate := rate) (gain := r5.1) s5
 have hb : r8.2.2.1.length < 30000 := by omega
 simp only [e8, obind_of]
 rw [same14_F _ _ (by omega) hb, obind_of, decide_eq_true rfl, if_pos rfl, plsame_F hN s8.v s8.al, obind_of]
 simp only [if_true]
 rw [plreset_F hN s8.v, obind_of]
 simp only [e8, obind_of]
 rw [plsame_F hN List.length_replicate hS0.al, obind_of]
 simp only [br_true]
 rw [plsame_F hN s8.v s8.al, obind_of]
end Go.Pl
