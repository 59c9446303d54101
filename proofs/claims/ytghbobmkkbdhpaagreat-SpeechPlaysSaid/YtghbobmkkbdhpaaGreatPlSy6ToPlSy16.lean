/-
 Layer 14: a Fresh frame without pulses is silence.
 Conditions: none.
-/
import Derived.Test.YtghbobmkkbdhpaaGreatPlPuToPlSy5
import Derived.Test.YtghbobmkkbdhpaaGreatPlKnown14
import Derived.Test.YtghbobmkkbdhpaaGreatSpEFns
import Derived.Test.YtghbobmkkbdhpaaGreatSpLawsP
set_option linter.unusedVariables false
set_option linter.unusedSimpArgs false
namespace Go.Pl
open Go.Eng Go.Proofs
section
variable {N : Nat}
theorem syreset_F {v : List Int} (hv : v.length = 352) : Rc.syreset.F N v = some (List.replicate 352 0) := by
 unfold Rc.syreset.F
 rw [chk_pos (by omega),List.drop_eq_nil_of_le (by omega),List.append_nil]
 rfl
end
end Go.Pl
/-
 Layer 14: a frame is played: what it comes to.
 Conditions: none.
-/
namespace Go.Pl
open Go.Eng Go.Proofs
def tapT : List (List Int) := [[13,22,39,23,12],[-1,36,64,27,-6],[4,6,24,7,5],[-2,6,118,7,-3],[2,10,70,15,0],[-9,30,80,34,-10],[0,0,96,0,0],[5,29,50,29,5]]
def tapV (i : Int) : List Int := tapT.getD i.toNat []
def tapB (l : List Int) : Prop := (-128 <= l.getD 0 0 /\ l.getD 0 0 <= 128) /\ (-128 <= l.getD 1 0 /\ l.getD 1 0 <= 128) /\ (-128 <= l.getD 2 0 /\ l.getD 2 0 <= 128) /\ (-128 <= l.getD 3 0 /\ l.getD 3 0 <= 128) /\ (-128 <= l.getD 4 0 /\ l.getD 4 0 <= 128) /\ l = [l.getD 0 0,l.getD 1 0,l.getD 2 0,l.getD 3 0,l.getD 4 0]
instance (l : List Int) : Decidable (tapB l) := by unfold tapB; infer_instance
theorem tapV_B {i : Int} (h0 : 0 <= i) (h1 : i <= 7) : tapB (tapV i) := by
 have key : ∀ i : Fin 8,tapB (tapT.getD i.val []) := by decide +kernel
 exact key ⟨i.toNat,by omega⟩
def five (l : List Int) : Int × Int × Int × Int × Int := (l.getD 0 0,l.getD 1 0,l.getD 2 0,l.getD 3 0,l.getD 4 0)
theorem ttaps_F {N : Nat} {i : Int} (h0 : 0 <= i) (h1 : i <= 7) : Rc.ttaps.F N i = some (five (tapV i)) := by
 have : i = 0 \/ i = 1 \/ i = 2 \/ i = 3 \/ i = 4 \/ i = 5 \/ i = 6 \/ i = 7 := by omega
 rcases this with rfl | rfl | rfl | rfl | rfl | rfl | rfl | rfl <;> rfl
theorem cnt_memS : ∀ {l : List Int},cnt l <= 16 -> ∀ v ∈ l,-16 <= v /\ v <= 16
 | [],_,v,hv => by simp at hv
 | x :: l,h,v,hv => by
  have e : cnt (x :: l) = ab (c32 x) + cnt l := by simp [cnt,tot]
  have h1 := (cnt_range l).1
  have h0 : 0 <= ab (c32 x) := by unfold ab; split <;> omega
  rcases List.mem_cons.1 hv with rfl | hv
  ·have h2 : ab (c32 v) <= 16 := by omega
   unfold ab c32 at h2
   split at h2 <;> split at h2 <;> (try split at h2) <;> omega
  ·exact cnt_memS (by omega) v hv
theorem okB_mem : ∀ (m : Nat) {l : List Int},l.length = 16 * m -> okB m l = true -> ∀ v ∈ l,-16 <= v /\ v <= 16
 | 0,l,h,_,v,hv => by
  have : l = [] := List.eq_nil_of_length_eq_zero (by omega)
  rw [this] at hv; simp at hv
 | m + 1,l,h,ho,v,hv => by
  simp only [okB,Bool.and_eq_true,decide_eq_true_eq] at ho
  rw [<- List.take_append_drop 16 l] at hv
  rcases List.mem_append.1 hv with hv | hv
  ·exact cnt_memS ho.1 v hv
  ·exact okB_mem m (by rw [List.length_drop]; omega) ho.2 v hv
theorem goodB_mem {l : List Int} (h : goodB l = true) : ∀ v ∈ l,-16 <= v /\ v <= 16 := by
 unfold goodB mayB at h
 simp only [Bool.and_eq_true,decide_eq_true_eq] at h
 exact okB_mem (l.length / 16) (by omega) h.2
theorem last_any {l : List Int} (h : 1 <= l.length) (d e : Int) : l.getLastD d = l.getLastD e := by
 rw [List.getLastD_eq_getLast?,List.getLastD_eq_getLast?,List.getLast?_eq_getElem?,List.getElem?_eq_getElem (by omega)]
 rfl
def ah14 (n : Nat) : List Int := (List.range n).map fun (k : Nat) => (32768 * ((k : Int) + 1)).tdiv ((n : Int) + 1)
theorem ah14_len (n : Nat) : (ah14 n).length = n := by simp [ah14]
section
variable {N : Nat}
theorem plreset_to {rate gain : Int} {voice : List Int} {n : Nat} (hn : n <= 100) : ∀ (nn k : Nat) (l : List Int),k <= n -> l.length = n -> l.take k = (ah14 n).take k -> n - k < nn -> Rc.plreset.loop4 N nn (n : Int) (n : Int) rate gain voice (k : Int) l = some (ah14 n)
 | 0,k,l,_,_,_,h => by omega
 | nn + 1,k,l,hk,h0,ht,h => by
  unfold Rc.plreset.loop4
  simp only [br_dec,chkI_same,chkL_same]
  by_cases c : k < n
  ·have hl := ah14_len n
   have hd : (0 : Int) <= (32768 * ((k : Int) + 1)).tdiv ((n : Int) + 1) /\ (32768 * ((k : Int) + 1)).tdiv ((n : Int) + 1) <= 32768 * ((k : Int) + 1) := by
    rw [Int.tdiv_eq_ediv_of_nonneg (by omega)]
    exact ⟨Int.ediv_nonneg (by omega) (by omega),Int.ediv_le_self _ (by omega)⟩
   rw [if_pos (by omega),i64 (x:=(n : Int) + 1) (by omega) (by omega),chk_pos (by omega),chk_pos (by omega),i64 (x:=(k : Int) + 1) (by omega) (by omega),i64 (x:=32768 * ((k : Int) + 1)) (by omega) (by omega),i64 (x:=(32768 * ((k : Int) + 1)).tdiv ((n : Int) + 1)) (by omega) (by omega),Int.toNat_natCast]
   refine plreset_to hn nn (k + 1) _ (by omega) (by rw [List.length_set]; exact h0) ?_ (by omega)
   rw [List.take_add_one,List.take_add_one,List.take_set_of_le (by omega),List.getElem?_set_self (by omega),ht]
   congr 1
   have : (ah14 n)[k]? = some ((32768 * ((k : Int) + 1)).tdiv ((n : Int) + 1)) := by simp [ah14,c]
   rw [this]
  ·have hkn : k = n := by omega
   subst hkn
   rw [List.take_of_length_le (by omega),List.take_of_length_le (by rw [ah14_len]; omega)] at ht
   rw [if_neg (by omega),ht]
theorem plreset_F (hN : 30000 <= N) {rate gain : Int} {voice ahead : List Int} (hv : voice.length = 352) : Rc.plreset.F N rate gain voice ahead = some (20,List.replicate 352 0,ah14 (ord14 rate)) := by
 have ho := ord14_le rate
 unfold Rc.plreset.F
 rw [syreset_F hv,obind_of,torder_F,obind_of,chk_pos ⟨by omega,Int.le_refl _,Int.ofNat_le.2 (Nat.le_trans ho (by decide))⟩,Int.toNat_natCast]
 simp only [chkI_same,List.length_replicate]
 refine obind_step (plreset_to (by omega) N 0 _ (Nat.zero_le _) (by simp) (by simp) (by omega)) ?_
 rfl
def pcm14 (l : List Int) : List Int := l.map fun x => clp (-32768) 32767 (ml x 1 4)
theorem sypcm_to {s : List Int} (hn : s.length <= 10000) : ∀ (nn k : Nat) (l : List Int),k <= s.length -> l.length = s.length -> l.take k = (pcm14 s).take k -> s.length - k < nn -> Rc.sypcm.loop3 N nn (s.length : Int) s (k : Int) l = some (pcm14 s)
 | 0,k,l,_,_,_,h => by omega
 | nn + 1,k,l,hk,h0,ht,h => by
  have e4 : ∀ x y,Rc.fmul.F N x y 4 = some (ml x y 4) := fun x y => fmul_F (s:=4) (by omega) (by omega) x y
  have hs : ∀ v,Rc.fsat.F N v = some (clp (-32768) 32767 v) := fun v => by
   unfold Rc.fsat.F
   rw [clamp_F (by omega),obind_of]
  unfold Rc.sypcm.loop3
  simp only [br_dec,chkI_same,chkL_same]
  have hl : (pcm14 s).length = s.length := by simp [pcm14]
  by_cases c : k < s.length
  ·rw [if_pos (by omega),chk_pos (by omega),e4,obind_of,hs,obind_of,chk_pos (by omega),Int.toNat_natCast,i64 (x:=(k : Int) + 1) (by omega) (by omega)]
   refine sypcm_to hn nn (k + 1) _ (by omega) (by rw [List.length_set]; exact h0) ?_ (by omega)
   rw [List.take_add_one,List.take_add_one,List.take_set_of_le (by omega),List.getElem?_set_self (by omega),ht]
   congr 1
   have : (pcm14 s)[k]? = some (clp (-32768) 32767 (ml (s.getD k 0) 1 4)) := by simp [pcm14,c,List.getD_eq_getElem?_getD]
   rw [this]
  ·have hkn : k = s.length := by omega
   rw [hkn,List.take_of_length_le (by omega),List.take_of_length_le (by omega)] at ht
   rw [if_neg (by omega),ht]
theorem sypcm_F (hN : 30000 <= N) {s : List Int} (hn : s.length <= 10000) : Rc.sypcm.F N s = some (pcm14 s) := by
 unfold Rc.sypcm.F
 rw [chk_pos (by omega),Int.toNat_natCast]
 refine obind_step (sypcm_to hn N 0 _ (Nat.zero_le _) (by simp) (by simp) (by omega)) ?_
 rfl
def lag14 (kind : Int) (ltps : List (List Int)) (k : Nat) : Int := if kind = 2 then (ltps.getD k []).headD 0 else 0
def tp14 (kind : Int) (ltps : List (List Int)) (k : Nat) : List Int := if kind = 2 then tapV ((ltps.getD k []).tail.headD 0) else [0,0,0,0,0]
def pp14 (n : Nat) (kind : Int) (pulses : List Int) (k : Nat) : List Int := if kind = 0 then List.replicate n 0 else (pulses.drop (k * n)).take n
def part14 (n cnt : Nat) (kind : Int) (gains pulses : List Int) (ltps : List (List Int)) (a1 a2 : List Int) (k : Nat) (v : List Int) : List Int × List Int :=
 run14 (gz (c63 (gains.getD k 0))) (lag14 kind ltps k) (tp14 kind ltps k) (if 2 * k < cnt then a1 else a2) (pp14 n kind pulses k) v []
def pr14 (n cnt : Nat) (kind : Int) (gains pulses : List Int) (ltps : List (List Int)) (a1 a2 : List Int) : Nat -> Nat -> List Int -> List Int -> List Int × List Int
 | 0,_,v,o => (v,o)
 | c + 1,k,v,o => pr14 n cnt kind gains pulses ltps a1 a2 c (k + 1) (part14 n cnt kind gains pulses ltps a1 a2 k v).1 (o ++ (part14 n cnt kind gains pulses ltps a1 a2 k v).2)
structure GoodR (n cnt : Nat) (kind : Int) (gains pulses : List Int) (ltps : List (List Int)) (a1 a2 : List Int) : Prop where
 n0 : 1 <= n
 n1 : n <= 100
 c : cnt <= 100
 g : gains.length = cnt
 p : kind ≠ 0 -> pulses.length = n * cnt /\ ∀ x ∈ pulses,-16 <= x /\ x <= 16
 l : kind = 2 -> ltps.length = cnt /\ ∀ r ∈ ltps,3 <= r.headD 0 /\ r.headD 0 <= 318 /\ 0 <= r.tail.headD 0 /\ r.tail.headD 0 <= 7
 f1 : a1.length <= 32 /\ ∀ x ∈ a1,-131072 <= x /\ x <= 131072
 f2 : a2.length <= 32 /\ ∀ x ∈ a2,-131072 <= x /\ x <= 131072
theorem pp14_of {n cnt : Nat} {kind : Int} {gains pulses : List Int} {ltps : List (List Int)} {a1 a2 : List Int} (h : GoodR n cnt kind gains pulses ltps a1 a2) {k : Nat} (hk : k < cnt) : (pp14 n kind pulses k).length = n /\ ∀ x ∈ pp14 n kind pulses k,-16 <= x /\ x <= 16 := by
 unfold pp14
 split
 ·exact ⟨by simp,fun x hx => by rw [List.eq_of_mem_replicate hx]; omega⟩
 ·rename_i h0
  obtain ⟨h1,h2⟩ := h.p h0
  have : (k + 1) * n <= n * cnt := by rw [Nat.mul_comm n]; exact Nat.mul_le_mul_right _ hk
  rw [Nat.succ_mul] at this
  exact ⟨by rw [List.length_take,List.length_drop]; omega,fun x hx => h2 x (List.mem_of_mem_drop (List.mem_of_mem_take hx))⟩
theorem part14_good {n cnt : Nat} {kind : Int} {gains pulses : List Int} {ltps : List (List Int)} {a1 a2 : List Int} (h : GoodR n cnt kind gains pulses ltps a1 a2) {k : Nat} (hk : k < cnt) :
  GoodP (gz (c63 (gains.getD k 0))) (lag14 kind ltps k) ((tp14 kind ltps k).getD 0 0) ((tp14 kind ltps k).getD 1 0) ((tp14 kind ltps k).getD 2 0) ((tp14 kind ltps k).getD 3 0) ((tp14 kind ltps k).getD 4 0) (pp14 n kind pulses k) (if 2 * k < cnt then a1 else a2) /\ tapB (tp14 kind ltps k) := by
 obtain ⟨z0,z1⟩ := gz_range (c63_range (gains.getD k 0)).1 (c63_range (gains.getD k 0)).2
 obtain ⟨p0,p1⟩ := pp14_of h hk
 have n0 := h.n0
 have n1 := h.n1
 have hL : (lag14 kind ltps k = 0 \/ 3 <= lag14 kind ltps k /\ lag14 kind ltps k <= 318) /\ tapB (tp14 kind ltps k) := by
  unfold lag14 tp14
  by_cases h2 : kind = 2
  ·obtain ⟨l1,l2⟩ := h.l h2
   have hm : ltps.getD k [] ∈ ltps := by rw [List.getD_eq_getElem?_getD,List.getElem?_eq_getElem (by omega)]; exact List.getElem_mem (by omega)
   obtain ⟨b1,b2,b3,b4⟩ := l2 _ hm
   rw [if_pos h2,if_pos h2]
   exact ⟨Or.inr ⟨b1,b2⟩,tapV_B b3 b4⟩
  ·rw [if_neg h2,if_neg h2]
   exact ⟨Or.inl rfl,by decide⟩
 obtain ⟨hl,ht⟩ := hL
 refine ⟨⟨by omega,by omega,p1,z0,by omega,hl,ht.1,ht.2.1,ht.2.2.1,ht.2.2.2.1,ht.2.2.2.2.1,?_,?_⟩,ht⟩
 ·split
  ·exact h.f1.1
  ·exact h.f2.1
 ·split
  ·exact h.f1.2
  ·exact h.f2.2
theorem part14_len {n cnt : Nat} {kind : Int} {gains pulses : List Int} {ltps : List (List Int)} {a1 a2 : List Int} (h : GoodR n cnt kind gains pulses ltps a1 a2) {k : Nat} (hk : k < cnt) {v : List Int} (hv : v.length = 352) : (part14 n cnt kind gains pulses ltps a1 a2 k v).1.length = 352 /\ (part14 n cnt kind gains pulses ltps a1 a2 k v).2.length = n := by
 have := run14_len (gz (c63 (gains.getD k 0))) (lag14 kind ltps k) (tp14 kind ltps k) (if 2 * k < cnt then a1 else a2) (pp14 n kind pulses k) v [] hv
 refine ⟨this.1,?_⟩
 unfold part14
 rw [this.2,(pp14_of h hk).1]
 simp
theorem pr14_len {n cnt : Nat} {kind : Int} {gains pulses : List Int} {ltps : List (List Int)} {a1 a2 : List Int} (h : GoodR n cnt kind gains pulses ltps a1 a2) : ∀ (c k : Nat) (v o : List Int),k + c <= cnt -> v.length = 352 -> (pr14 n cnt kind gains pulses ltps a1 a2 c k v o).1.length = 352 /\ (pr14 n cnt kind gains pulses ltps a1 a2 c k v o).2.length = o.length + n * c
 | 0,k,v,o,_,hv => ⟨hv,rfl⟩
 | c + 1,k,v,o,hk,hv => by
  obtain ⟨h1,h2⟩ := part14_len h (k:=k) (by omega) hv
  obtain ⟨h3,h4⟩ := pr14_len h c (k + 1) _ (o ++ (part14 n cnt kind gains pulses ltps a1 a2 k v).2) (by omega) h1
  refine ⟨h3,?_⟩
  simp only [pr14]
  rw [h4,List.length_append,h2,Nat.mul_succ]
  omega
theorem copied {n : Nat} {P : List Int} {j : Nat} (h : j + n <= P.length) : List.take (List.replicate n (0 : Int)).length (List.take (P.length - j) (List.drop j P)) ++ List.drop (min (List.take (P.length - j) (List.drop j P)).length (List.replicate n (0 : Int)).length) (List.replicate n (0 : Int)) = (P.drop j).take n := by
 have e1 : List.take (P.length - j) (List.drop j P) = List.drop j P := List.take_of_length_le (by rw [List.length_drop]; omega)
 have e2 : List.drop n (List.replicate n (0 : Int)) = [] := List.drop_eq_nil_of_le (by simp)
 rw [List.length_replicate,e1,List.length_drop,Nat.min_eq_right (by omega),e2,List.append_nil]
theorem ploop_F (hN : 30000 <= N) {n cnt : Nat} {kind : Int} {gains pulses : List Int} {ltps : List (List Int)} {a1 a2 : List Int} (h : GoodR n cnt kind gains pulses ltps a1 a2) {rate one btw : Int} {fresh : Bool} {two ahead : List Int} : ∀ (nn k : Nat) (gain : Int) (v o : List Int),k <= cnt -> v.length = 352 -> o.length = n * k -> cnt - k < nn ->
  Rc.plplay.loop12 N nn (n : Int) (cnt : Int) rate kind one btw fresh gains two gains pulses ltps (k : Int) gain v a1 a2 o ahead =
   some ((gains.drop k).getLastD gain,(pr14 n cnt kind gains pulses ltps a1 a2 (cnt - k) k v o).1,a1,a2,(pr14 n cnt kind gains pulses ltps a1 a2 (cnt - k) k v o).2,ahead)
 | 0,k,gain,v,o,_,_,_,hh => by omega
 | nn + 1,k,gain,v,o,hk,hv,ho,hh => by
  have n0 := h.n0
  have n1 := h.n1
  have hc := h.c
  have hg := h.g
  unfold Rc.plplay.loop12
  simp only [br_dec,br_bne,br_beq,chkI_same,chkL_same,chkB_same,chkR_same]
  by_cases c : k < cnt
  ·have hnk : n * k <= 100 * 100 := Nat.mul_le_mul n1 (by omega)
   have hkn : k * n = n * k := Nat.mul_comm _ _
   have hn1 : n * (k + 1) = n * k + n := Nat.mul_succ n k
   have hsp : n * (k + 1) <= n * cnt := Nat.mul_le_mul_left _ c
   obtain ⟨q1,q2⟩ := part14_len h c hv
   obtain ⟨gp,gt⟩ := part14_good h c
   have ih := ploop_F hN h (rate:=rate) (one:=one) (btw:=btw) (fresh:=fresh) (two:=two) (ahead:=ahead) nn (k + 1) (gains.getD k 0) (part14 n cnt kind gains pulses ltps a1 a2 k v).1 (o ++ (part14 n cnt kind gains pulses ltps a1 a2 k v).2) (by omega) q1 (by rw [List.length_append]; omega) (by omega)
   have e2 : (gains.drop (k + 1)).getLastD (gains.getD k 0) = (gains.drop k).getLastD gain := by rw [drop_cons (show k < gains.length by omega),List.getLastD_cons]
   have e3 : cnt - k = (cnt - (k + 1)) + 1 := by omega
   rw [e2] at ih
   rw [e3]
   simp only [pr14]
   have hrun := syrun_F hN gp hv
   rw [<- gt.2.2.2.2.2] at hrun
   have hrun : Rc.syrun.F N (gz (c63 (gains.getD k 0))) (lag14 kind ltps k) ((tp14 kind ltps k).getD 0 0) ((tp14 kind ltps k).getD 1 0) ((tp14 kind ltps k).getD 2 0) ((tp14 kind ltps k).getD 3 0) ((tp14 kind ltps k).getD 4 0) (pp14 n kind pulses k) (if 2 * k < cnt then a1 else a2) v = some (0,part14 n cnt kind gains pulses ltps a1 a2 k v) := hrun
   generalize part14 n cnt kind gains pulses ltps a1 a2 k v = R at ih hrun q1 q2
   rw [if_pos (by omega),chk_pos (by omega),chk_pos (by omega),gloud_F (by omega),obind_of,i64 (x:=(2 : Int) * k) (by omega) (by omega),i64 (x:=(k : Int) * n) (by omega) (by omega),i64 (x:=(k : Int) + 1) (by omega) (by omega),Int.toNat_natCast,Int.toNat_natCast]
   have hz : ((k : Int) * (n : Int)).toNat = k * n := by rw [<- Int.natCast_mul,Int.toNat_natCast]
   have hC : o.length + R.2.length <= 17592186043904 := by omega
   rw [hz]
   have hcp : kind ≠ 0 -> List.take (List.replicate n (0 : Int)).length (List.take (pulses.length - k * n) (List.drop (k * n) pulses)) ++ List.drop (min (List.take (pulses.length - k * n) (List.drop (k * n) pulses)).length (List.replicate n (0 : Int)).length) (List.replicate n (0 : Int)) = pp14 n kind pulses k := fun h0 => by
    rw [copied (by have := (h.p h0).1; omega)]
    unfold pp14
    rw [if_neg h0]
   have hz0 : kind = 0 -> List.replicate n (0 : Int) = pp14 n kind pulses k := fun h0 => by unfold pp14; rw [if_pos h0]
   have hck : kind ≠ 0 -> ((0 : Int) <= (k : Int) * n /\ (k : Int) * n <= (pulses.length : Int)) := fun h0 => by
    have := (h.p h0).1
    have : (k : Int) * n = ((k * n : Nat) : Int) := by simp
    omega
   have hlt : kind = 2 -> ((0 : Int) <= (k : Int) /\ (k : Int) < (ltps.length : Int)) /\ Rc.ttaps.F N ((ltps.getD k []).tail.headD 0) = some ((tp14 kind ltps k).getD 0 0,(tp14 kind ltps k).getD 1 0,(tp14 kind ltps k).getD 2 0,(tp14 kind ltps k).getD 3 0,(tp14 kind ltps k).getD 4 0) /\ (ltps.getD k []).headD 0 = lag14 kind ltps k := fun h2 => by
    obtain ⟨l1,l2⟩ := h.l h2
    have hm : ltps.getD k [] ∈ ltps := by rw [List.getD_eq_getElem?_getD,List.getElem?_eq_getElem (by omega)]; exact List.getElem_mem (by omega)
    obtain ⟨b1,b2,b3,b4⟩ := l2 _ hm
    refine ⟨by omega,?_,by unfold lag14; rw [if_pos h2]⟩
    rw [ttaps_F b3 b4]
    unfold tp14
    rw [if_pos h2]
    rfl
   have hl0 : kind ≠ 2 -> (tp14 kind ltps k).getD 0 0 = 0 /\ (tp14 kind ltps k).getD 1 0 = 0 /\ (tp14 kind ltps k).getD 2 0 = 0 /\ (tp14 kind ltps k).getD 3 0 = 0 /\ (tp14 kind ltps k).getD 4 0 = 0 /\ lag14 kind ltps k = 0 := fun h2 => by
    unfold tp14 lag14
    rw [if_neg h2,if_neg h2]
    exact ⟨rfl,rfl,rfl,rfl,rfl,rfl⟩
   by_cases d : 2 * k < cnt
   ·rw [if_pos (by omega)]
    rw [if_pos d] at hrun
    by_cases k0 : kind = 0
    ·have k2 : kind ≠ 2 := by omega
     obtain ⟨t0,t1,t2,t3,t4,t5⟩ := hl0 k2
     rw [t0,t1,t2,t3,t4,t5] at hrun
     rw [if_pos k0,if_neg k2,hz0 k0]
     refine obind_step hrun ?_
     rw [chk_pos hC]
     exact ih
    ·rw [if_neg k0,chk_pos (hck k0),hcp k0]
     by_cases k2 : kind = 2
     ·obtain ⟨t0,t1,t2⟩ := hlt k2
      rw [if_pos k2,chk_pos t0,chk_pos t0,t1,obind_of,t2]
      refine obind_step hrun ?_
      rw [chk_pos hC]
      exact ih
     ·obtain ⟨t0,t1,t2,t3,t4,t5⟩ := hl0 k2
      rw [t0,t1,t2,t3,t4,t5] at hrun
      rw [if_neg k2]
      refine obind_step hrun ?_
      rw [chk_pos hC]
      exact ih
   ·rw [if_neg (by omega)]
    rw [if_neg d] at hrun
    by_cases k0 : kind = 0
    ·have k2 : kind ≠ 2 := by omega
     obtain ⟨t0,t1,t2,t3,t4,t5⟩ := hl0 k2
     rw [t0,t1,t2,t3,t4,t5] at hrun
     rw [if_pos k0,if_neg k2,hz0 k0]
     refine obind_step hrun ?_
     rw [chk_pos hC]
     exact ih
    ·rw [if_neg k0,chk_pos (hck k0),hcp k0]
     by_cases k2 : kind = 2
     ·obtain ⟨t0,t1,t2⟩ := hlt k2
      rw [if_pos k2,chk_pos t0,chk_pos t0,t1,obind_of,t2]
      refine obind_step hrun ?_
      rw [chk_pos hC]
      exact ih
     ·obtain ⟨t0,t1,t2,t3,t4,t5⟩ := hl0 k2
      rw [t0,t1,t2,t3,t4,t5] at hrun
      rw [if_neg k2]
      refine obind_step hrun ?_
      rw [chk_pos hC]
      exact ih
  ·have hkk : k = cnt := by omega
   rw [if_neg (by omega),List.drop_eq_nil_of_le (by omega),hkk,Nat.sub_self]
   rfl
structure Mid (N : Nat) (rate one btw : Int) (two A l h a1 a2 : List Int) : Prop where
 d : ∃ e,Rc.ldecode.F N (ord14 rate : Int) one two = some (e,l)
 b : ∃ e,Rc.lbetween.F N btw A l = some (e,h)
 f1 : ∃ e,Rc.lfrom.F N h = some (e,a1)
 f2 : ∃ e,Rc.lfrom.F N l = some (e,a2)
 ll : l.length = ord14 rate
 g1 : a1.length <= 32 /\ ∀ x ∈ a1,-131072 <= x /\ x <= 131072
 g2 : a2.length <= 32 /\ ∀ x ∈ a2,-131072 <= x /\ x <= 131072
def wd14 (rate : Int) : Nat := if rate = 8000 then 40 else 80
theorem wd14_of {rate ms : Int} (h : May14 rate ms) : rate.tdiv 200 = (wd14 rate : Int) /\ 1 <= wd14 rate /\ wd14 rate <= 100 /\ wd14 rate * cnt14 ms = 16 * blk14 rate ms := by
 obtain ⟨rfl | rfl,rfl | rfl⟩ := h <;> decide
theorem mid_T (hN : 30000 <= N) {rate ms kind one btw : Int} {two gains pulses A : List Int} {ltps : List (List Int)} (hg : GoodF rate ms kind one btw two gains pulses ltps) (ha : A.length = ord14 rate) : ∃ l h a1 a2,Mid N rate one btw two A l h a1 a2 := by
 have ho := ord14_le rate
 obtain ⟨r3,e3,p4⟩ := ldecode_T (N:=N) hN hg.may.1 hg.on.1 hg.on.2 hg.tw.1 hg.tw.2
 obtain ⟨r4,e4,p5⟩ := lbetween_T (N:=N) hN (w:=btw) (a:=A) (b:=r3.2) (by omega) (by omega) hg.bt.1 hg.bt.2
 have hord : ord14 rate = 10 \/ ord14 rate = 16 := by rcases hg.may.1 with rfl | rfl <;> decide
 obtain ⟨r5,e5,p6,p7⟩ := lfrom_T (N:=N) hN (l:=r4.2) (by omega)
 obtain ⟨r6,e6,p8,p9⟩ := lfrom_T (N:=N) hN (l:=r3.2) (by omega)
 exact ⟨r3.2,r4.2,r5.2,r6.2,⟨r3.1,e3⟩,⟨r4.1,e4⟩,⟨r5.1,e5⟩,⟨r6.1,e6⟩,p4,⟨by omega,p7⟩,⟨by omega,p9⟩⟩
theorem goodR_of {rate ms kind one btw : Int} {two gains pulses : List Int} {ltps : List (List Int)} (hg : GoodF rate ms kind one btw two gains pulses ltps) {a1 a2 : List Int} (g1 : a1.length <= 32 /\ ∀ x ∈ a1,-131072 <= x /\ x <= 131072) (g2 : a2.length <= 32 /\ ∀ x ∈ a2,-131072 <= x /\ x <= 131072) : GoodR (wd14 rate) (cnt14 ms) kind gains pulses ltps a1 a2 := by
 obtain ⟨m1,m2,m3,m4,m5,m6,m7,m8⟩ := may_facts hg.may
 obtain ⟨w0,w1,w2,w3⟩ := wd14_of hg.may
 have hL := lags_of rate
 refine ⟨w1,w2,by omega,hg.ga.1,fun h0 => ?_,fun h2 => ?_,g1,g2⟩
 ·have := hg.pu
  rw [if_neg h0] at this
  exact ⟨by rw [w3]; exact this.1,goodB_mem this.2⟩
 ·have := hg.lt
  rw [if_pos h2] at this
  refine ⟨this.1,fun r hr => ?_⟩
  have hr := this.2 r hr
  have hlo : lo8 rate = 16 \/ lo8 rate = 32 := by rcases hg.may.1 with rfl | rfl <;> decide
  omega
theorem play_F (hN : 30000 <= N) {rate ms kind one btw gain : Int} {fresh : Bool} {two gains pulses voice ahead : List Int} {ltps : List (List Int)} (hg : GoodF rate ms kind one btw two gains pulses ltps) (hv : voice.length = 352) {l h a1 a2 : List Int} (hm : Mid N rate one btw two (if fresh then ah14 (ord14 rate) else ahead) l h a1 a2) (hl : ltps.length <= 1000000) :
  Rc.plplay.F N ms kind one btw rate gain fresh two gains pulses voice ahead ltps =
   some (0,gains.getLastD 20,(pr14 (wd14 rate) (cnt14 ms) kind gains pulses ltps a1 a2 (cnt14 ms) 0 (if fresh then List.replicate 352 0 else voice) []).1,pcm14 (pr14 (wd14 rate) (cnt14 ms) kind gains pulses ltps a1 a2 (cnt14 ms) 0 (if fresh then List.replicate 352 0 else voice) []).2,l) := by
 obtain ⟨m1,m2,m3,m4,m5,m6,m7,m8⟩ := may_facts hg.may
 obtain ⟨w0,w1,w2,w3⟩ := wd14_of hg.may
 have hgl := hg.ga.1
 have hgd := (spgood_F (N:=N) hN (fresh:=fresh) hl).1 hg
 have hR := goodR_of hg hm.g1 hm.g2
 obtain ⟨x1,e1⟩ := hm.d
 obtain ⟨x2,e2⟩ := hm.b
 obtain ⟨x3,e3⟩ := hm.f1
 obtain ⟨x4,e4⟩ := hm.f2
 unfold Rc.plplay.F
 rw [hgd,obind_of,br_not,if_pos rfl]
 have glast : ∀ d : Int,(gains.drop 0).getLastD d = gains.getLastD 20 := fun d => by
  rw [List.drop_zero]; exact last_any (by omega) d 20
 have hlp := fun (g : Int) (V A : List Int) (hV : V.length = 352) => ploop_F hN hR (rate:=rate) (one:=one) (btw:=btw) (fresh:=fresh) (two:=two) (ahead:=A) N 0 g V [] (Nat.zero_le _) hV rfl (by omega)
 simp only [chkI_same,chkL_same]
 rw [w0,i64 (x:=(wd14 rate : Int)) (by omega) (by omega),hgl]
 cases fresh with
 | true =>
  simp only [if_true] at e2 ⊢
  rw [br_true,plreset_F hN hv,obind_of,torder_F,obind_of,e1,obind_of]
  simp only
  rw [e2,obind_of]
  simp only
  rw [e3,obind_of,e4,obind_of]
  refine obind_step (hlp 20 (List.replicate 352 0) _ List.length_replicate) ?_
  have hlen := (pr14_len hR (cnt14 ms) 0 (List.replicate 352 0) [] (by omega) List.length_replicate).2
  simp only [Nat.sub_zero,glast]
  rw [sypcm_F hN (by rw [hlen]; simp only [List.length_nil]; omega),obind_of]
 | false =>
  simp only [Bool.false_eq_true,if_false] at e2 ⊢
  rw [br_false,torder_F,obind_of,e1,obind_of]
  simp only
  rw [e2,obind_of]
  simp only
  rw [e3,obind_of,e4,obind_of]
  refine obind_step (hlp gain voice _ hv) ?_
  have hlen := (pr14_len hR (cnt14 ms) 0 voice [] (by omega) hv).2
  simp only [Nat.sub_zero,glast]
  rw [sypcm_F hN (by rw [hlen]; simp only [List.length_nil]; omega),obind_of]
end
end Go.Pl
/-
 Layer 14: the reference reads a frame alike; SpeechReads.
 Conditions: none.
-/
namespace Go.Pl
open Go.Eng Go.Proofs
section
variable {N : Nat} {b : List Int}
theorem spreadf_not {rate ms was rng val last front back window waiting count : Int} {bad : Bool} (hm : ¬ May14 rate ms) :
  Rc.spreadf.F N rate ms was rng val last front back window waiting count bad b = some (0,0,0,1,rng,val,last,front,back,window,waiting,count,false,bad,[],[],[],[]) := by
 unfold Rc.spreadf.F
 rw [spmay_F,obind_of,br_not,if_neg (by simpa [May14] using hm)]
 simp only [chkL_same]
end
theorem fr14_good {b : List Int} (hb : Bytes b) {rate ms : Int} (hm : May14 rate ms) (was : Int) {s : RS} {k : Nat} (h : s.Ok k) (hk : k <= 100) :
  GoodF rate ms (fr14 b rate ms was s).kind (fr14 b rate ms was s).one (fr14 b rate ms was s).btw (fr14 b rate ms was s).two (fr14 b rate ms was s).gains (fr14 b rate ms was s).pulses (fr14 b rate ms was s).ltps := by
 obtain ⟨a1,a2,a3,a4,a5,a6,a7,a8,a9,b1,b2,b3,b4,b5,b6,b7⟩ := fr14_facts hb hm was h hk
 refine ⟨hm,⟨a2,a3⟩,⟨a4,a5⟩,⟨a6,a7⟩,⟨a8,a9⟩,⟨b1,b2⟩,?_,?_⟩
 ·split
  ·rename_i h2
   refine ⟨b4 h2,fun r hr => ?_⟩
   obtain ⟨x,t,rfl,h3,h4,h5,h6⟩ := b5 r hr
   exact ⟨h3,h4,h5,h6⟩
  ·rename_i h2; exact b3 h2
 ·split
  ·rename_i h0; exact b6 h0
  ·rename_i h0; exact b7 h0
def RS.new (b : List Int) : RS := ⟨Q.new b,W.new,1,false⟩
theorem RS.new_ok {b : List Int} (hb : Bytes b) : (RS.new b).Ok 1 := ⟨Q.new_ok hb,W.new_ok,by show (0 : Int) <= 1; decide,by show (1 : Int) <= 32 * ((1 : Nat) : Int); decide,by have := (Q.new_rng b).2; simp only [RS.new]; omega⟩
theorem RS.new_ct (b : List Int) : (RS.new b).ct = cnew b := by rw [cnew_eq]; rfl
end Go.Pl
/-
 Layer 14: a player's copies; whatever a frame is, it is played or refused.
 Conditions: none.
-/
namespace Go.Pl
open Go.Eng Go.Proofs
section
variable {N : Nat}
structure GoodS (rate : Int) (voice ahead : List Int) : Prop where
 r : rate = 8000 \/ rate = 16000
 v : voice.length = 352
 a : ahead.length = ord14 rate
end
end Go.Pl
/-
 Layer 14: both books make the same of frequencies.
 Conditions: none.
-/
namespace Go.Pl
open Go.Eng Go.Proofs
theorem wmod (x : Int) : ∃ k : Int,IntKind.i64.wrap x = x + 18446744073709551616 * k /\ -9223372036854775808 <= IntKind.i64.wrap x /\ IntKind.i64.wrap x < 9223372036854775808 := by
 simp only [IntKind.wrap,IntKind.signed,IntKind.bits,Bool.true_and]
 split
 ·rename_i h
  have h := of_decide_eq_true h
  exact ⟨-(x / 18446744073709551616) - 1,by omega,by omega,by omega⟩
 ·rename_i h
  have h : ¬ _ := fun hh => h (decide_eq_true hh)
  exact ⟨-(x / 18446744073709551616),by omega,by omega,by omega⟩
theorem wrap_of {x y : Int} (h : ∃ k : Int,x = y + 18446744073709551616 * k) : IntKind.i64.wrap x = IntKind.i64.wrap y := by
 obtain ⟨k,h⟩ := h
 obtain ⟨a,ha,a1,a2⟩ := wmod x
 obtain ⟨b,hb,b1,b2⟩ := wmod y
 omega
theorem wrap_asub (a b r : Int) : IntKind.i64.wrap (IntKind.i64.wrap (a + b) - r) = IntKind.i64.wrap (a + IntKind.i64.wrap (b - r)) := by
 obtain ⟨k,hk,_⟩ := wmod (a + b)
 obtain ⟨j,hj,_⟩ := wmod (b - r)
 exact wrap_of ⟨k - j,by omega⟩
theorem getD_map0 (f : Int -> Int) {l : List Int} {k : Nat} (h : k < l.length) : (l.map f).getD k 0 = f (l.getD k 0) := by
 simp [List.getD_eq_getElem?_getD,h]
theorem set_same0 {l : List Int} {k : Nat} (h : k < l.length) : l.set k (l.getD k 0) = l := by
 apply List.ext_getElem?
 intro i
 rw [List.getElem?_set]
 split
 ·rename_i e
  subst e
  simp [List.getD_eq_getElem?_getD,List.getElem?_eq_getElem h]
 ·rfl
section
variable {N : Nat}
theorem fm (a b : Int) (s : Nat) (h0 : 1 <= s) (h1 : s <= 62) : Rc.rmul.F N a b (s : Int) = Rc.fmul.F N a b (s : Int) := by rw [fmul_F h0 h1,rmul_F h0 h1]
theorem fm4 (a b : Int) : Rc.rmul.F N a b 4 = Rc.fmul.F N a b 4 := fm a b 4 (by omega) (by omega)
theorem fm5 (a b : Int) : Rc.rmul.F N a b 5 = Rc.fmul.F N a b 5 := fm a b 5 (by omega) (by omega)
theorem fm7 (a b : Int) : Rc.rmul.F N a b 7 = Rc.fmul.F N a b 7 := fm a b 7 (by omega) (by omega)
theorem fm12 (a b : Int) : Rc.rmul.F N a b 12 = Rc.fmul.F N a b 12 := fm a b 12 (by omega) (by omega)
theorem fm14 (a b : Int) : Rc.rmul.F N a b 14 = Rc.fmul.F N a b 14 := fm a b 14 (by omega) (by omega)
theorem fm15 (a b : Int) : Rc.rmul.F N a b 15 = Rc.fmul.F N a b 15 := fm a b 15 (by omega) (by omega)
theorem fm16 (a b : Int) : Rc.rmul.F N a b 16 = Rc.fmul.F N a b 16 := fm a b 16 (by omega) (by omega)
theorem fm24 (a b : Int) : Rc.rmul.F N a b 24 = Rc.fmul.F N a b 24 := fm a b 24 (by omega) (by omega)
theorem fm30 (a b : Int) : Rc.rmul.F N a b 30 = Rc.fmul.F N a b 30 := fm a b 30 (by omega) (by omega)
theorem setrun {f : Int -> Int} {s l : List Int} {k : Nat} (hk : k < s.length) (hl : l.length = s.length) (ht : l.take k = (s.map f).take k) : (l.set k (f (s.getD k 0))).take (k + 1) = (s.map f).take (k + 1) := by
 rw [List.take_add_one,List.take_add_one,List.take_set_of_le (by omega),List.getElem?_set_self (by omega),ht]
 congr 1
 simp [List.getD_eq_getElem?_getD,hk]
theorem apprun {f : Int -> Int} {s l : List Int} {k : Nat} (hk : k < s.length) (ht : l = (s.map f).take k) : l ++ [f (s.getD k 0)] = (s.map f).take (k + 1) := by
 rw [List.take_add_one,ht]
 congr 1
 simp [List.getD_eq_getElem?_getD,hk]
theorem fullrun {f : Int -> Int} {s l : List Int} {k : Nat} (hk : k = s.length) (hl : l.length = s.length) (ht : l.take k = (s.map f).take k) : l = s.map f := by
 rwa [hk,List.take_of_length_le (by omega),List.take_of_length_le (by simp)] at ht
theorem lclamped_F (hN : 30000 <= N) {s : List Int} (hn : s.length <= 10000) : Rc.lclamped.F N s = some (s.map (clp 0 32768)) := by
 have loop : ∀ (nn k : Nat) (l : List Int),k <= s.length -> l.length = s.length -> l.take k = (s.map (clp 0 32768)).take k -> s.length - k < nn -> Rc.lclamped.loop3 N nn (s.length : Int) s (k : Int) l = some (s.map (clp 0 32768)) := by
  intro nn
  induction nn with
  | zero => intro k l _ _ _ h; omega
  | succ nn ih =>
   intro k l hk h0 ht h
   unfold Rc.lclamped.loop3
   simp only [br_dec,chkI_same,chkL_same]
   by_cases c : k < s.length
   ·rw [if_pos (by omega),chk_pos (by omega),clamp_F (by omega),obind_of,chk_pos (by omega),Int.toNat_natCast,i64 (x:=(k : Int) + 1) (by omega) (by omega)]
    exact ih (k + 1) _ (by omega) (by rw [List.length_set]; exact h0) (setrun c h0 ht) (by omega)
   ·rw [if_neg (by omega),fullrun (show k = s.length by omega) h0 ht]
 unfold Rc.lclamped.F
 rw [chk_pos (by omega),Int.toNat_natCast]
 refine obind_step (loop N 0 _ (Nat.zero_le _) (by simp) (by simp) (by omega)) ?_
 rfl
theorem r6clamped_F (hN : 30000 <= N) {lo hi : Int} (hlh : lo <= hi) {s : List Int} (hn : s.length <= 10000) : Rc.r6clamped.F N lo hi s = some (s.map (clp lo hi)) := by
 have loop : ∀ (nn k : Nat) (l : List Int),k <= s.length -> l = (s.map (clp lo hi)).take k -> s.length - k < nn -> Rc.r6clamped.loop3 N nn lo hi s (k : Int) l = some (s.map (clp lo hi)) := by
  intro nn
  induction nn with
  | zero => intro k l _ _ h; omega
  | succ nn ih =>
   intro k l hk ht h
   unfold Rc.r6clamped.loop3
   simp only [br_dec,chkI_same,chkL_same]
   by_cases c : k < s.length
   ·have hlen : l.length = k := by rw [ht,List.length_take,List.length_map]; omega
    rw [if_pos (by omega),chk_pos (by omega),rclamp_F hlh,obind_of,chk_pos (by simp; omega),Int.toNat_natCast,i64 (x:=(k : Int) + 1) (by omega) (by omega)]
    exact ih (k + 1) _ (by omega) (apprun c ht) (by omega)
   ·rw [if_neg (by omega),ht,List.take_of_length_le (by simp; omega)]
 unfold Rc.r6clamped.F
 refine obind_step (loop N 0 [] (Nat.zero_le _) (by simp) (by omega)) ?_
 rfl
theorem lfit5_F (hN : 30000 <= N) {s : List Int} (hn : s.length <= 10000) : Rc.lfit.loop5 N N (s.length : Int) s 0 (List.replicate s.length 0) = some (s.map (clp (-131072) 131072)) := by
 have loop : ∀ (nn k : Nat) (l : List Int),k <= s.length -> l.length = s.length -> l.take k = (s.map (clp (-131072) 131072)).take k -> s.length - k < nn -> Rc.lfit.loop5 N nn (s.length : Int) s (k : Int) l = some (s.map (clp (-131072) 131072)) := by
  intro nn
  induction nn with
  | zero => intro k l _ _ _ h; omega
  | succ nn ih =>
   intro k l hk h0 ht h
   unfold Rc.lfit.loop5
   simp only [br_dec,chkI_same,chkL_same]
   by_cases c : k < s.length
   ·rw [if_pos (by omega),chk_pos (by omega),clamp_F (by omega),obind_of,chk_pos (by omega),Int.toNat_natCast,i64 (x:=(k : Int) + 1) (by omega) (by omega)]
    exact ih (k + 1) _ (by omega) (by rw [List.length_set]; exact h0) (setrun c h0 ht) (by omega)
   ·rw [if_neg (by omega),fullrun (show k = s.length by omega) h0 ht]
 exact loop N 0 _ (Nat.zero_le _) (by simp) (by simp) (by omega)
theorem lstable5_F (hN : 30000 <= N) {s : List Int} (hn : s.length <= 10000) : Rc.lstable.loop5 N N (s.length : Int) s 0 (List.replicate s.length 0) = some (s.map fun x => IntKind.i64.wrap (4096 * clp (-131072) 131072 x)) := by
 have loop : ∀ (nn k : Nat) (l : List Int),k <= s.length -> l.length = s.length -> l.take k = (s.map fun x => IntKind.i64.wrap (4096 * clp (-131072) 131072 x)).take k -> s.length - k < nn -> Rc.lstable.loop5 N nn (s.length : Int) s (k : Int) l = some (s.map fun x => IntKind.i64.wrap (4096 * clp (-131072) 131072 x)) := by
  intro nn
  induction nn with
  | zero => intro k l _ _ _ h; omega
  | succ nn ih =>
   intro k l hk h0 ht h
   unfold Rc.lstable.loop5
   simp only [br_dec,chkI_same,chkL_same]
   by_cases c : k < s.length
   ·rw [if_pos (by omega),chk_pos (by omega),clamp_F (by omega),obind_of,chk_pos (by omega),Int.toNat_natCast,i64 (x:=(k : Int) + 1) (by omega) (by omega)]
    exact ih (k + 1) _ (by omega) (by rw [List.length_set]; exact h0) (setrun (f:=fun x => IntKind.i64.wrap (4096 * clp (-131072) 131072 x)) c h0 ht) (by omega)
   ·rw [if_neg (by omega),fullrun (show k = s.length by omega) h0 ht]
 exact loop N 0 _ (Nat.zero_le _) (by simp) (by simp) (by omega)
theorem r6stable5_F (hN : 30000 <= N) {s : List Int} (hn : s.length <= 10000) : Rc.r6stable.loop5 N N 0 s = some (s.map fun x => IntKind.i64.wrap (x * 4096)) := by
 have loop : ∀ (nn k : Nat) (l : List Int),k <= s.length -> l.length = s.length -> l.take k = (s.map fun x => IntKind.i64.wrap (x * 4096)).take k -> l.drop k = s.drop k -> s.length - k < nn -> Rc.r6stable.loop5 N nn (k : Int) l = some (s.map fun x => IntKind.i64.wrap (x * 4096)) := by
  intro nn
  induction nn with
  | zero => intro k l _ _ _ _ h; omega
  | succ nn ih =>
   intro k l hk h0 ht hd h
   unfold Rc.r6stable.loop5
   simp only [br_dec]
   by_cases c : k < s.length
   ·have e : l.getD k 0 = s.getD k 0 := by
     rw [drop_cons c,drop_cons (show k < l.length by omega)] at hd
     exact (List.cons.inj hd).1
    rw [if_pos (by omega),chk_pos (by omega),chk_pos (by omega),Int.toNat_natCast,i64 (x:=(k : Int) + 1) (by omega) (by omega),e]
    refine ih (k + 1) _ (by omega) (by rw [List.length_set]; exact h0) (setrun (f:=fun x => IntKind.i64.wrap (x * 4096)) c h0 ht) ?_ (by omega)
    rw [List.drop_set_of_lt (by omega)]
    rw [drop_cons c,drop_cons (show k < l.length by omega)] at hd
    exact (List.cons.inj hd).2
   ·rw [if_neg (by omega),fullrun (show k = s.length by omega) h0 ht]
 exact loop N 0 _ (Nat.zero_le _) rfl (by simp) rfl (by omega)
theorem steady_up : ∀ (nn : Nat) (s k : Int) (l : List Int),Rc.lsteady.loop6 N nn (l.length : Int) s k l = Rc.r6steady.loop6 N nn s k l
 | 0,s,k,l => rfl
 | nn + 1,s,k,l => by
  unfold Rc.lsteady.loop6 Rc.r6steady.loop6
  simp only [br_dec,chkI_same,List.length_set]
  have ih := steady_up nn
  by_cases c : k < l.length
  ·rw [if_pos c,if_pos c]
   by_cases d : 0 <= k /\ k < l.length
   ·have hk : k.toNat < l.length := by omega
    simp only [chk_pos d]
    by_cases e : l.getD k.toNat 0 < IntKind.i64.wrap (s + 250)
    ·have ih := ih ((l.set k.toNat (IntKind.i64.wrap (s + 250))).getD k.toNat 0) (IntKind.i64.wrap (k + 1)) (l.set k.toNat (IntKind.i64.wrap (s + 250)))
     rw [List.length_set] at ih
     simp only [if_pos e]
     exact ih
    ·simp only [if_neg e,set_same0 hk]
     exact ih _ _ _
   ·simp only [chk,if_neg d]
  ·rw [if_neg c,if_neg c]
theorem steady_down : ∀ (nn : Nat) (s k : Int) (l : List Int),Rc.lsteady.loop13 N nn s k l = Rc.r6steady.loop13 N nn s k l
 | 0,s,k,l => rfl
 | nn + 1,s,k,l => by
  unfold Rc.lsteady.loop13 Rc.r6steady.loop13
  simp only [br_dec,List.length_set]
  have ih := steady_down nn
  by_cases c : k >= 0
  ·rw [if_pos c,if_pos c]
   by_cases d : 0 <= k /\ k < l.length
   ·have hk : k.toNat < l.length := by omega
    simp only [chk_pos d]
    by_cases e : l.getD k.toNat 0 > IntKind.i64.wrap (s - 250)
    ·simp only [if_pos e,if_pos (show IntKind.i64.wrap (s - 250) < l.getD k.toNat 0 from e)]
     exact ih _ _ _
    ·simp only [if_neg e,if_neg (show ¬ IntKind.i64.wrap (s - 250) < l.getD k.toNat 0 from e),set_same0 hk]
     exact ih _ _ _
   ·simp only [chk,if_neg d]
  ·rw [if_neg c,if_neg c]
theorem r6steady_F (hN : 30000 <= N) {l : List Int} (hl : l.length <= 64) : Rc.r6steady.F N l = Rc.lsteady.F N l := by
 unfold Rc.r6steady.F Rc.lsteady.F
 simp only [br_dec]
 rw [if_neg (by omega),if_neg (by omega),lclamped_F hN (by omega),r6clamped_F hN (by omega) (by omega),obind_of,obind_of,steady_up]
 congr 1
 funext r
 rw [steady_down]
noncomputable def lsf2 (N : Nat) (o : Int) : List (Option (List Int)) := (List.range 16).map fun (i : Nat) => Rc.tlsf.F N o (i : Int)
noncomputable def rlsf2 (N : Nat) (o : Int) : List (Option (List Int)) := (List.range 16).map fun (i : Nat) => Rc.rlsf.F N o (i : Int)
theorem lsfs10 (N : Nat) : lsf2 (N + 1000) 10 = rlsf2 (N + 1000) 10 := by kernel_rfl
theorem lsfs16 (N : Nat) : lsf2 (N + 1000) 16 = rlsf2 (N + 1000) 16 := by kernel_rfl
theorem rlsf_F (hN : 30000 <= N) {rate one : Int} (hr : rate = 8000 \/ rate = 16000) (h0 : 0 <= one) (h1 : one <= 15) : Rc.rlsf.F N (ord14 rate : Int) one = Rc.tlsf.F N (ord14 rate : Int) one := by
 obtain ⟨i,rfl⟩ : ∃ i : Nat,one = (i : Int) := ⟨one.toNat,by omega⟩
 obtain ⟨K,rfl⟩ : ∃ K,N = K + 1000 := ⟨N - 1000,by omega⟩
 have key : ∀ o : Int,lsf2 (K + 1000) o = rlsf2 (K + 1000) o -> Rc.rlsf.F (K + 1000) o (i : Int) = Rc.tlsf.F (K + 1000) o (i : Int) := by
  intro o h
  have e := congrArg (fun l => l[i]?) h
  simp only [lsf2,rlsf2,List.getElem?_map,List.getElem?_range (show i < 16 by omega),Option.map_some,Option.some.injEq] at e
  exact e.symm
 rcases hr with rfl | rfl
 ·exact key _ (lsfs10 K)
 ·exact key _ (lsfs16 K)
theorem decode_loop {o u : Int} (hu : Rc.lunit.F N o = some u) (hs : Rc.r6step.F N o = some u) {one : Int} {two : List Int} : ∀ (nn : Nat) (k : Int) (l : List Int),(l.length : Int) = o -> Rc.ldecode.loop5 N nn o o one two k l = Rc.r6decode.loop3 N nn o two k l
 | 0,k,l,_ => rfl
 | nn + 1,k,l,hl => by
  unfold Rc.ldecode.loop5 Rc.r6decode.loop3
  simp only [br_dec,chkI_same,chkL_same,chkN_same,hu,hs,obind_of]
  rw [decode_loop hu hs nn _ _ (by rw [List.length_set]; exact hl)]
theorem r6decode_F (hN : 30000 <= N) {rate one : Int} {two : List Int} (hr : rate = 8000 \/ rate = 16000) (h0 : 0 <= one) (h1 : one <= 15) (h2 : two.length = ord14 rate) (h3 : ∀ x ∈ two,-4 <= x /\ x <= 4) {e : Int} {l : List Int} (h : Rc.ldecode.F N (ord14 rate : Int) one two = some (e,l)) : Rc.r6decode.F N (ord14 rate : Int) one two = some l := by
 have ho := ord14_le rate
 have hu : ∃ u : Int,Rc.lunit.F N (ord14 rate : Int) = some u /\ Rc.r6step.F N (ord14 rate : Int) = some u := by
  rcases hr with rfl | rfl
  ·exact ⟨400,rfl,rfl⟩
  ·exact ⟨250,rfl,rfl⟩
 obtain ⟨u,hu,hs⟩ := hu
 obtain ⟨t,ht,hlen⟩ := tlsf_T hN hr h0 h1
 obtain ⟨d,hd,hdl⟩ := ldecode_loop (N:=N) (order:=(ord14 rate : Int)) (one:=one) hu h2 (by omega) N 0 t (Nat.zero_le _) hlen (by omega)
 unfold Rc.ldecode.F at h
 rw [lgood_F hr h0 h1 h2 h3 hN,obind_of,br_not,if_pos rfl,ht,obind_of,hlen] at h
 unfold Rc.r6decode.F
 rw [rlsf_F hN hr h0 h1,ht,obind_of]
 have e0 := decode_loop (N:=N) hu hs (one:=one) (two:=two) N 0 t (by rw [hlen])
 rw [show ((0 : Nat) : Int) = 0 from rfl] at hd
 rw [hd] at e0 h
 rw [<- e0,obind_of,r6steady_F hN (by omega)]
 rw [obind_of] at h
 obtain ⟨s,hs2,_⟩ := lsteady_T hN (l:=d) (by omega)
 rw [hs2] at h ⊢
 rw [obind_of] at h ⊢
 simp only [Option.some.injEq,Prod.mk.injEq] at h
 rw [h.2]
theorem rdown4 (y : Int) : Rc.rdown.F N (IntKind.i64.wrap y) 4 = some ((IntKind.i64.wrap y).fdiv ((2 : Int) ^ (2 : Nat))) := by
 obtain ⟨k,_,h0,h1⟩ := wmod y
 generalize IntKind.i64.wrap y = a at h0 h1
 unfold Rc.rdown.F
 have e4 : (2 : Int) ^ (2 : Nat) = 4 := by decide
 simp only [br_dec]
 rw [chk_pos (by decide),chk_pos (by decide),e4,Int.fdiv_eq_ediv_of_nonneg _ (by decide)]
 by_cases h : 0 <= a
 ·rw [if_neg (by rw [Int.tmod_eq_emod_of_nonneg h]; omega),Int.tdiv_eq_ediv_of_nonneg h,i64 (by omega) (by omega)]
 ·obtain ⟨c,rfl⟩ : ∃ c,a = -c := ⟨-a,by omega⟩
  rw [Int.neg_tmod,Int.neg_tdiv,Int.tmod_eq_emod_of_nonneg (by omega),Int.tdiv_eq_ediv_of_nonneg (by omega)]
  split
  ·rw [i64 (x:=-(c / 4)) (by omega) (by omega),i64 (by omega) (by omega),show -(c / 4) - 1 = -c / 4 by omega]
  ·rw [i64 (by omega) (by omega),show -(c / 4) = -c / 4 by omega]
theorem between_loop {w : Int} {l1 : List Int} : ∀ (nn : Nat) (k : Int) (l : List Int),Rc.lbetween.loop5 N nn w (l.length : Int) l1 k l = Rc.r6between.loop4 N nn w l1 k l
 | 0,k,l => rfl
 | nn + 1,k,l => by
  unfold Rc.lbetween.loop5 Rc.r6between.loop4
  simp only [br_dec,chkI_same,chkL_same,chkN_same,rdown4,obind_of]
  have ih := between_loop (w:=w) (l1:=l1) nn (IntKind.i64.wrap (k + 1)) (l.set k.toNat (IntKind.i64.wrap (l.getD k.toNat 0 + (IntKind.i64.wrap (IntKind.i64.wrap (l1.getD k.toNat 0 - l.getD k.toNat 0) * w)).fdiv ((2 : Int) ^ (2 : Nat)))))
  rw [List.length_set] at ih
  rw [ih]
  by_cases c : k < l.length
  ·rw [if_pos c,if_pos c]
   by_cases d : 0 <= k /\ k < l.length
   ·simp only [chk_pos d]
   ·simp only [chk,if_neg d]
  ·rw [if_neg c,if_neg c]
theorem r6between_F (hN : 30000 <= N) {w : Int} {a b : List Int} (hab : a.length = b.length) (ha : a.length <= 64) (w0 : 0 <= w) (w1 : w <= 4) {e : Int} {l : List Int} (h : Rc.lbetween.F N w a b = some (e,l)) : Rc.r6between.F N w a b = some l := by
 unfold Rc.lbetween.F at h
 simp only [br_dec,br_bne] at h
 rw [if_pos (by omega),if_neg (by omega),if_neg (by omega),if_neg (by omega),lclamped_F hN (by omega),obind_of,lclamped_F hN (by omega),obind_of,between_loop] at h
 unfold Rc.r6between.F
 rw [r6clamped_F hN (by omega) (by omega),obind_of,r6clamped_F hN (by omega) (by omega),obind_of]
 revert h
 cases Rc.r6between.loop4 N N w (b.map (clp 0 32768)) 0 (a.map (clp 0 32768)) with
 | none => intro h; simp [obind] at h
 | some r =>
  intro h
  rw [obind_of] at h ⊢
  simp only [Option.some.injEq,Prod.mk.injEq] at h
  rw [h.2]
theorem series_loop {x : Int} {l : List Int} : ∀ (nn : Nat) (s k : Int),Rc.fseries.loop3 N nn x (l.length : Int) l s k = Rc.rseries.loop2 N nn x l s k
 | 0,s,k => rfl
 | nn + 1,s,k => by
  unfold Rc.fseries.loop3 Rc.rseries.loop2
  simp only [br_dec,chkI_same,chkL_same,fm30,series_loop nn]
theorem rseries_F (x s : Int) (l : List Int) : Rc.rseries.F N x s l = Rc.fseries.F N x (s :: l) := by
 unfold Rc.rseries.F Rc.fseries.F
 have e : List.take ((s :: l).length - 1) (List.drop 1 (s :: l)) = l := by
  rw [List.drop_succ_cons,List.drop_zero,List.length_cons,Nat.add_sub_cancel,List.take_length]
 rw [chk_pos (by simp only [List.length_cons]; omega),chk_pos (by simp only [List.length_cons]; omega),e,series_loop]
 rfl
theorem obind_obind {A B C : Type} (x : Option A) (f : A -> Option B) (g : B -> Option C) : obind (obind x f) g = obind x fun r => obind (f r) g := by cases x <;> rfl
theorem obind_if {A B : Type} {c : Prop} [Decidable c] (x y : Option A) (f : A -> Option B) : obind (if c then x else y) f = if c then obind x f else obind y f := by split <;> rfl
theorem rcos_F (a : Int) : Rc.rcos.F N a = Rc.fcos.F N a := by
 unfold Rc.rcos.F Rc.fcos.F Rc.rquarter.F
 simp only [br_dec,fm14,fm15,fm30,rseries_F]
 generalize IntKind.i64.wrap ↑(BitVec.ofInt 64 a &&& BitVec.ofInt 64 65535).toNat = m
 by_cases c1 : m > 32768
 ·simp only [if_pos c1]
  by_cases c2 : IntKind.i64.wrap (65536 - m) > 16384
  ·simp only [if_pos c2,obind_if,obind_obind,obind_of]
  ·simp only [if_neg c2,obind_if,obind_obind,obind_of]
 ·simp only [if_neg c1]
  by_cases c2 : m > 16384
  ·simp only [if_pos c2,obind_if,obind_obind,obind_of]
  ·simp only [if_neg c2,obind_if,obind_obind,obind_of]
end
end Go.Pl
/-
 Layer 14: both books make the same filter of frequencies.
 Conditions: none.
-/
namespace Go.Pl
open Go.Eng Go.Proofs
section
variable {N : Nat}
theorem poly_in (y : List Int) (s : Int) : ∀ (nn : Nat) (j : Int) (l : List Int),Rc.r6poly.loop9 N nn s y j l = Rc.lpoly.loop8 N nn s y j l
 | 0,j,l => rfl
 | nn + 1,j,l => by
  unfold Rc.r6poly.loop9 Rc.lpoly.loop8
  simp only [chkI_same,chkL_same,chkN_same,fm16,wrap_asub,poly_in y s nn]
theorem poly_out (y : List Int) : ∀ (nn : Nat) (k : Int) (l : List Int),Rc.r6poly.loop5 N nn y k l = Rc.lpoly.loop4 N nn y k l
 | 0,k,l => rfl
 | nn + 1,k,l => by
  unfold Rc.r6poly.loop5 Rc.lpoly.loop4
  simp only [chkI_same,chkL_same,chkN_same,fm16,poly_in,poly_out y nn]
theorem chk_swap {Y : Type} {a b : Prop} [Decidable a] [Decidable b] (k : Option Y) : chk a (chk b k) = chk b (chk a k) := by
 by_cases ha : a <;> by_cases hb : b <;> simp [chk,ha,hb]
theorem r6poly_F (y : List Int) : Rc.r6poly.F N y = Rc.lpoly.F N y := by
 unfold Rc.r6poly.F Rc.lpoly.F
 simp only [poly_out]
 congr 1
 exact chk_swap _
theorem sgn_tmod (a b : Int) : (0 <= a -> 0 <= a.tmod b) /\ (a <= 0 -> a.tmod b <= 0) := by
 refine ⟨fun h => Int.tmod_nonneg b h,fun h => ?_⟩
 obtain ⟨c,rfl⟩ : ∃ c,a = -c := ⟨-a,by omega⟩
 rw [Int.neg_tmod]
 have := Int.tmod_nonneg b (show 0 <= c by omega)
 omega
theorem r24div (x d : Int) : Rc.rdiv.F N x d 24 = Rc.fdiv.F N x d 24 := by
 unfold Rc.rdiv.F Rc.fdiv.F Rc.rdown.F
 have ef : ∀ v,clp (-2147483648) 2147483648 v = fc v := fun _ => rfl
 simp only [rclamp_F (show (-2147483648 : Int) <= 2147483648 by decide),factor_F,obind_of,ef,br_dec,br_beq,br_bne]
 obtain ⟨a0,a1⟩ := fc_range x
 obtain ⟨b0,b1⟩ := fc_range d
 generalize fc x = a at a0 a1
 generalize fc d = b at b0 b1
 by_cases hb : b = 0
 ·rw [if_pos hb,if_pos hb]
 rw [if_neg hb,if_neg hb]
 simp only [show ((24 : Int) < 0) = False by decide,show ((24 : Int) > 30) = False by decide,if_false]
 have e1 : (2 : Int) ^ min (IntKind.u64.wrap 24).toNat (64 : Nat) = 16777216 := by decide
 have e2 : (2 : Int) ^ min ((24 : Int)).toNat (64 : Nat) = 16777216 := by decide
 rw [e1,e2,Int.one_mul,i64 (x:=16777216) (by omega) (by omega),i64 (x:=a * 16777216) (by omega) (by omega),chk_pos (show (0 : Int) <= 24 by decide)]
 simp only [chk_pos hb]
 have hq : -72057594037927936 <= (a * 16777216).tdiv b /\ (a * 16777216).tdiv b <= 72057594037927936 := by
  have := Int.natAbs_tdiv_le_natAbs (a * 16777216) b
  omega
 obtain ⟨s1,s2⟩ := sgn_tmod (a * 16777216) b
 by_cases h : b < 0
 ·rw [if_pos h,chk_pos (by decide),i64 (x:=0 - a) (by omega) (by omega),i64 (x:=0 - b) (by omega) (by omega),i64 (x:=(0 - a) * 16777216) (by omega) (by omega),chk_pos (by omega),chk_pos (by omega)]
  have g1 : ((0 - a) * 16777216).tmod (0 - b) = -((a * 16777216).tmod b) := by
   rw [show (0 - a) * 16777216 = -(a * 16777216) by omega,show 0 - b = -b by omega,Int.neg_tmod,Int.tmod_neg]
  have g2 : ((0 - a) * 16777216).tdiv (0 - b) = (a * 16777216).tdiv b := by
   rw [show (0 - a) * 16777216 = -(a * 16777216) by omega,show 0 - b = -b by omega,Int.neg_tdiv,Int.tdiv_neg,Int.neg_neg]
  rw [g1,g2]
  by_cases hz : (a * 16777216).tmod b = 0
  ·rw [if_pos hz,if_neg (by omega),obind_of]
  ·rw [if_neg hz]
   by_cases hn : a * 16777216 < 0
   ·rw [if_neg (by have := s2 (by omega); omega),obind_of]
    simp only [hn,h,decide_true,Bool.not_true,Bool.false_eq_true,br]
    rfl
   ·rw [if_pos (by have := s1 (by omega); omega),obind_of]
    simp only [hn,h,decide_true,decide_false,Bool.not_false,br]
    rfl
 ·rw [if_neg h,chk_pos (by decide)]
  by_cases hz : (a * 16777216).tmod b = 0
  ·rw [if_pos hz,if_neg (by omega),obind_of]
  ·rw [if_neg hz]
   by_cases hn : a * 16777216 < 0
   ·rw [if_pos (by have := s2 (by omega); omega),obind_of]
    simp only [hn,h,decide_true,decide_false,Bool.not_true,br]
    rfl
   ·rw [if_neg (by have := s1 (by omega); omega),obind_of]
    simp only [hn,h,decide_false,Bool.not_false,br]
    rfl
theorem stable_in {m : Nat} {r d : Int} {old : List Int} (hm : m <= old.length) (ho : old.length <= 1000) : ∀ (nn k : Nat) (l : List Int),l.length = old.length ->
  Rc.r6stable.loop17 N nn (m : Int) r d old (k : Int) l = Rc.lstable.loop18 N nn (m : Int) r d (m : Int) (old.take m) (k : Int) l
 | 0,k,l,_ => rfl
 | nn + 1,k,l,hl => by
  unfold Rc.r6stable.loop17 Rc.lstable.loop18
  simp only [br_dec,chkI_same,chkL_same,chkN_same,fm24,r24div]
  by_cases c : k < m
  ·have hlen : (old.take m).length = m := by rw [List.length_take]; omega
   have hg : ∀ j : Nat,j < m -> (old.take m).getD j 0 = old.getD j 0 := fun j hj => by
    rw [List.getD_eq_getElem?_getD,List.getD_eq_getElem?_getD,List.getElem?_take,if_pos hj]
   have e1 : ((m : Int) - 1 - k).toNat = m - 1 - k := by omega
   rw [if_pos (by omega),if_pos (by omega),i64 (x:=(m : Int) - 1) (by omega) (by omega),i64 (x:=(m : Int) - 1 - k) (by omega) (by omega),i64 (x:=(k : Int) + 1) (by omega) (by omega)]
   simp only [chk_pos (show (0 : Int) <= (k : Int) /\ (k : Int) < (old.length : Int) by omega),chk_pos (show (0 : Int) <= (k : Int) /\ (k : Int) < ((old.take m).length : Int) by omega),chk_pos (show (0 : Int) <= (m : Int) - 1 - k /\ (m : Int) - 1 - k < (old.length : Int) by omega),chk_pos (show (0 : Int) <= (m : Int) - 1 - k /\ (m : Int) - 1 - k < ((old.take m).length : Int) by omega),Int.toNat_natCast,e1,hg k c,hg (m - 1 - k) (by omega)]
   congr 1
   funext r0
   congr 1
   funext r1
   rw [rclamp_F (by omega),clamp_F (by omega),obind_of,obind_of]
   congr 1
   exact stable_in hm ho nn (k + 1) _ (by rw [List.length_set]; exact hl)
  ·rw [if_neg (by omega),if_neg (by omega)]
theorem stable_len {m : Nat} {r d : Int} {old : List Int} : ∀ (nn : Nat) (k : Int) (l x : List Int),Rc.r6stable.loop17 N nn (m : Int) r d old k l = some x -> x.length = l.length
 | 0,k,l,x,h => by simp [Rc.r6stable.loop17] at h
 | nn + 1,k,l,x,h => by
  unfold Rc.r6stable.loop17 at h
  simp only [br_dec,chkI_same,chkL_same,chkN_same] at h
  split at h
  ·simp only [chk] at h
   split at h
   ·split at h
    ·revert h
     cases Rc.rmul.F N r (old.getD (IntKind.i64.wrap (IntKind.i64.wrap ((m : Int) - 1) - k)).toNat 0) 24 with
     | none => intro h; simp [obind] at h
     | some r0 =>
      rw [obind_of]
      split
      ·cases Rc.rdiv.F N (IntKind.i64.wrap (old.getD k.toNat 0 + r0)) d 24 with
       | none => intro h; simp [obind] at h
       | some r1 =>
        rw [obind_of,rclamp_F (by omega),obind_of]
        intro h
        have := stable_len nn _ _ _ h
        rwa [List.length_set] at this
      ·cases Rc.rdiv.F N (IntKind.i64.wrap (old.getD k.toNat 0 + r0)) d 24 with
       | none => intro h; simp [obind] at h
       | some r1 =>
        rw [obind_of,rclamp_F (by omega),obind_of]
        intro h; simp at h
    ·simp at h
   ·simp at h
  ·simp only [Option.some.injEq] at h
   rw [h]
theorem stable_out {a : List Int} {s : Bool} : ∀ (nn k : Nat) (l : List Int),k <= l.length -> l.length <= 32 -> Rc.r6stable.loop9 N nn a ((k : Int) - 1) s l = Rc.lstable.loop10 N nn a ((k : Int) - 1) s l
 | 0,k,l,_,_ => rfl
 | nn + 1,k,l,hk,hl => by
  unfold Rc.r6stable.loop9 Rc.lstable.loop10
  simp only [br_dec,fm24,List.nil_append,List.drop_zero,Nat.sub_zero,Nat.zero_add]
  by_cases c : (k : Int) - 1 >= 0
  ·obtain ⟨m,rfl⟩ : ∃ m,k = m + 1 := ⟨k - 1,by omega⟩
   rw [show ((m + 1 : Nat) : Int) - 1 = (m : Int) by omega] at c ⊢
   rw [if_pos c,if_pos c,chk_pos (by omega),chk_pos (by omega),Int.toNat_natCast]
   split
   ·rfl
   split
   ·rfl
   congr 1
   funext r0
   have hlen : (l.take m).length = m := by rw [List.length_take]; omega
   rw [chk_pos (show l.length <= 17592186043904 by omega),chk_pos (show (0 : Int) <= (m : Int) /\ (m : Int) <= (l.length : Int) by omega),chk_pos (show (l.take m).length <= 17592186043904 by omega)]
   have e := stable_in (N:=N) (r:=l.getD m 0) (d:=IntKind.i64.wrap (16777216 - r0)) (show m <= l.length by omega) (by omega) N 0 l rfl
   rw [show ((0 : Nat) : Int) = 0 from rfl] at e
   rw [<- e,i64 (x:=(m : Int) - 1) (by omega) (by omega)]
   cases hx : Rc.r6stable.loop17 N N (m : Int) (l.getD m 0) (IntKind.i64.wrap (16777216 - r0)) l 0 l with
   | none => rfl
   | some x =>
    have hxl := stable_len N _ _ _ hx
    rw [obind_of,obind_of]
    exact stable_out nn m x (by omega) (by omega)
  ·rw [if_neg c,if_neg c]
theorem clp_len (f : Int -> Int) (l : List Int) : (l.map f).length = l.length := by simp
theorem r6stable_F (hN : 30000 <= N) {a : List Int} (ha : a.length <= 32) : Rc.r6stable.F N a = Rc.lstable.F N a := by
 unfold Rc.r6stable.F Rc.lstable.F
 simp only [br_dec]
 have e : (a.map (clp (-131072) 131072)).map (fun x => IntKind.i64.wrap (x * 4096)) = a.map fun x => IntKind.i64.wrap (4096 * clp (-131072) 131072 x) := by
  rw [List.map_map]
  congr 1
  funext x
  simp only [Function.comp]
  rw [Int.mul_comm]
 rw [if_neg (by omega),if_neg (by omega),r6clamped_F hN (by omega) (by omega),obind_of,chk_pos (by omega),Int.toNat_natCast,lstable5_F hN (by omega),obind_of,r6stable5_F hN (by rw [clp_len]; omega),obind_of,e,clp_len,i64 (x:=(a.length : Int) - 1) (by omega) (by omega),stable_out N a.length _ (by rw [clp_len]; omega) (by rw [clp_len]; omega)]
theorem chirp_pow {c : Int} {n : Nat} (hn : n <= 1000) : ∀ (nn k : Nat) (v : Int),k <= n + 1 -> Rc.r6chirp.loop10 N nn c (n : Int) v (k : Int) = Rc.lchirp.loop9 N nn c ((n : Int) + 1) v (k : Int)
 | 0,k,v,_ => rfl
 | nn + 1,k,v,hk => by
  unfold Rc.r6chirp.loop10 Rc.lchirp.loop9
  simp only [br_dec,chkI_same,fm16]
  by_cases d : k <= n
  ·rw [if_pos (by omega),if_pos (by omega),i64 (x:=(k : Int) + 1) (by omega) (by omega)]
   congr 1
   funext r
   exact chirp_pow hn nn (k + 1) r (by omega)
  ·rw [if_neg (by omega),if_neg (by omega)]
theorem chirp_loop {c : Int} {a : List Int} (ha : a.length <= 100) : ∀ (nn k : Nat) (l x : List Int),k <= a.length -> l.length = a.length -> Rc.lchirp.loop6 N nn c (a.length : Int) a (k : Int) l = some x -> Rc.r6chirp.loop6 N nn c a (k : Int) (l.take k) = some x
 | 0,k,l,x,_,_,h => by simp [Rc.lchirp.loop6] at h
 | nn + 1,k,l,x,hk,hl,h => by
  unfold Rc.lchirp.loop6 at h
  unfold Rc.r6chirp.loop6
  simp only [br_dec,chkI_same,chkL_same] at h ⊢
  by_cases d : k < a.length
  ·rw [if_pos (by omega),chk_pos (by omega),i64 (x:=(k : Int) + 1) (by omega) (by omega),Int.toNat_natCast] at h
   rw [if_pos (by omega),chk_pos (by omega),i64 (x:=(k : Int) + 1) (by omega) (by omega),Int.toNat_natCast]
   have e := chirp_pow (N:=N) (c:=c) (n:=k) (by omega) N 0 (a.getD k 0) (by omega)
   rw [show ((0 : Nat) : Int) = 0 from rfl] at e
   rw [e]
   revert h
   cases Rc.lchirp.loop9 N N c ((k : Int) + 1) (a.getD k 0) 0 with
   | none => intro h; simp [obind] at h
   | some r =>
    intro h
    rw [obind_of] at h ⊢
    rw [chk_pos (by omega)] at h
    rw [chk_pos (by rw [List.length_take]; simp; omega)]
    have ih := chirp_loop ha nn (k + 1) _ x (by omega) (by rw [List.length_set]; exact hl) h
    rw [List.take_add_one,List.take_set_of_le (by omega),List.getElem?_set_self (by omega)] at ih
    exact ih
  ·rw [if_neg (by omega)] at h ⊢
   rw [List.take_of_length_le (by omega)]
   exact h
theorem r6chirp_F {c : Int} {a x : List Int} (ha : a.length <= 32) (h : Rc.lchirp.F N c a = some x) : Rc.r6chirp.F N c a = some x := by
 unfold Rc.lchirp.F at h
 unfold Rc.r6chirp.F
 simp only [br_dec] at h ⊢
 rw [if_neg (by omega),clamp_F (by omega),obind_of,chk_pos (by omega),Int.toNat_natCast] at h
 rw [if_neg (by omega),rclamp_F (by omega),obind_of]
 revert h
 cases hx : Rc.lchirp.loop6 N N (clp 0 65536 c) (a.length : Int) a 0 (List.replicate a.length 0) with
 | none => intro h; simp [obind] at h
 | some r =>
  intro h
  rw [obind_of] at h
  have := chirp_loop (N:=N) (c:=clp 0 65536 c) (by omega) N 0 _ r (Nat.zero_le _) List.length_replicate hx
  rw [show ((0 : Nat) : Int) = 0 from rfl,List.take_zero] at this
  rw [this,obind_of]
  exact h
theorem fit_loop (hN : 30000 <= N) {e : List Int} {s2 : List Int} : ∀ (nn k : Nat) (l x : List Int),k <= 17 -> l.length <= 32 -> (∀ v ∈ l,-131072 <= v /\ v <= 131072) -> Rc.lfit.loop10 N nn (k : Int) l = some x ->
  x.length = l.length /\ ((Rc.r6fit.loop5 N nn e (k : Int) l s2 = some (.inr x) /\ Rc.lstable.F N x = some true) \/ Rc.r6fit.loop5 N nn e (k : Int) l s2 = some (.inl (x,s2)))
 | 0,k,l,x,_,_,_,h => by simp [Rc.lfit.loop10] at h
 | nn + 1,k,l,x,hk,hl,hv,h => by
  unfold Rc.lfit.loop10 at h
  unfold Rc.r6fit.loop5
  simp only [br_dec] at h ⊢
  by_cases d : k <= 16
  ·rw [if_pos (by omega),i64 (x:=2048 * (k : Int)) (by omega) (by omega),i64 (x:=65536 - 2048 * (k : Int)) (by omega) (by omega),i64 (x:=(k : Int) + 1) (by omega) (by omega)] at h
   rw [if_pos (by omega),i64 (x:=2048 * (k : Int)) (by omega) (by omega),i64 (x:=65536 - 2048 * (k : Int)) (by omega) (by omega),i64 (x:=(k : Int) + 1) (by omega) (by omega),r6stable_F hN (by omega)]
   revert h
   cases hs : Rc.lstable.F N l with
   | none => intro h; simp [obind] at h
   | some b =>
    rw [obind_of,obind_of]
    cases b with
    | true =>
     intro h
     simp only [br,Bool.not_true,Bool.false_eq_true] at h ⊢
     simp only [Option.some.injEq] at h
     subst h
     exact ⟨rfl,Or.inl ⟨rfl,hs⟩⟩
    | false =>
     intro h
     obtain ⟨r,hr,h1,h2⟩ := lchirp_T (N:=N) hN (65536 - 2048 * (k : Int)) (M:=131072) (by omega) (l:=l) hl hv
     simp only [br,Bool.not_false] at h ⊢
     rw [hr,obind_of] at h
     rw [r6chirp_F hl hr,obind_of]
     obtain ⟨g1,g2⟩ := fit_loop hN (e:=e) (s2:=s2) nn (k + 1) r x (by omega) (by omega) h2 h
     exact ⟨g1.trans h1,g2⟩
  ·rw [if_neg (by omega)] at h ⊢
   simp only [Option.some.injEq] at h
   subst h
   exact ⟨rfl,Or.inr rfl⟩
theorem r6fit_F (hN : 30000 <= N) {a x : List Int} (ha : a.length <= 32) (h : Rc.lfit.F N a = some x) : Rc.r6fit.F N a = some x := by
 unfold Rc.lfit.F at h
 unfold Rc.r6fit.F
 simp only [br_dec] at h ⊢
 rw [if_neg (by omega),chk_pos (by omega),Int.toNat_natCast,lfit5_F hN (by omega),obind_of] at h
 rw [if_neg (by omega),r6clamped_F hN (by omega) (by omega),obind_of]
 revert h
 cases hx : Rc.lfit.loop10 N N 1 (a.map (clp (-131072) 131072)) with
 | none => intro h; simp [obind] at h
 | some r =>
  intro h
  rw [obind_of] at h
  have hv : ∀ v ∈ a.map (clp (-131072) 131072),-131072 <= v /\ v <= 131072 := fun v hv => by
   obtain ⟨w,_,rfl⟩ := List.mem_map.1 hv
   exact clp_range (by omega) w
  obtain ⟨g1,g2⟩ := fit_loop hN (e:=a) (s2:=[]) N 1 _ r (by omega) (by rw [clp_len]; omega) hv hx
  rw [show ((1 : Nat) : Int) = 1 from rfl] at g2
  rw [clp_len] at g1
  rcases g2 with ⟨g2,g3⟩ | g2
  ·rw [g2,osum_inr]
   rw [g3,obind_of] at h
   simpa [br] using h
  ·rw [g2,osum_inl]
   simp only
   rw [r6stable_F hN (by omega)]
   revert h
   cases Rc.lstable.F N r with
   | none => intro h; simp [obind] at h
   | some b =>
    rw [obind_of,obind_of]
    cases b with
    | true => intro h; simpa [br] using h
    | false =>
     intro h
     simp only [br,Bool.not_false] at h ⊢
     rw [chk_pos (by omega),Int.toNat_natCast,<- g1]
     exact h
theorem from_split {l : List Int} : ∀ (nn k : Nat) (p q : List Int),k <= l.length -> l.length <= 1000 -> Rc.r6from.loop5 N nn (l.map (clp 0 32768)) (k : Int) p q = Rc.lfrom.loop5 N nn (l.length : Int) l (k : Int) p q
 | 0,k,p,q,_,_ => rfl
 | nn + 1,k,p,q,hk,hl => by
  unfold Rc.r6from.loop5 Rc.lfrom.loop5
  simp only [br_dec,br_beq,chkI_same,chkL_same,clp_len,rcos_F]
  by_cases c : k < l.length
  ·rw [if_pos (by omega),if_pos (by omega),chk_pos (by omega),chk_pos (by omega),Int.toNat_natCast,getD_map0 _ c,clamp_F (by omega),obind_of,i64 (x:=(k : Int) + 1) (by omega) (by omega)]
   congr 1
   funext r
   have ih := fun p q => from_split (l:=l) nn (k + 1) p q (by omega) hl
   rw [show ((k + 1 : Nat) : Int) = (k : Int) + 1 by omega] at ih
   simp only [ih]
  ·rw [if_neg (by omega),if_neg (by omega)]
theorem from_join {l0 p q : List Int} {h n : Nat} (hn : n = 2 * h) (hl0 : l0.length = n) (hl : n <= 1000) : ∀ (nn k : Nat) (l : List Int),k <= h -> l.length = n -> Rc.r6from.loop15 N nn l0 p q (k : Int) l = Rc.lfrom.loop15 N nn (h : Int) p q (k : Int) l
 | 0,k,l,_,_ => rfl
 | nn + 1,k,l,hk,h0 => by
  unfold Rc.r6from.loop15 Rc.lfrom.loop15
  simp only [br_dec,chkI_same,chkL_same,fm5,List.length_set]
  have e : (l0.length : Int).tdiv 2 = (h : Int) := by rw [hl0,Int.tdiv_eq_ediv_of_nonneg (by omega)]; omega
  rw [e,i64 (x:=(h : Int)) (by omega) (by omega),hl0,h0]
  by_cases c : k < h
  ·rw [if_pos (by omega),if_pos (by omega),i64 (x:=(k : Int) + 1) (by omega) (by omega)]
   have ih := fun l hl' => from_join (l0:=l0) (p:=p) (q:=q) hn hl0 hl nn (k + 1) l (by omega) hl'
   rw [show ((k + 1 : Nat) : Int) = (k : Int) + 1 by omega] at ih
   congr 1
   congr 1
   congr 1
   congr 1
   congr 1
   funext r0
   congr 1
   congr 1
   funext r1
   congr 1
   exact ih _ (by rw [List.length_set,List.length_set]; exact h0)
  ·rw [if_neg (by omega),if_neg (by omega)]
theorem lfrom_ok (hN : 30000 <= N) {l : List Int} (hl : l.length = 10 \/ l.length = 16) {e : Int} {x : List Int} (h : Rc.lfrom.F N l = some (e,x)) : Rc.r6from.F N l = some x := by
 have main : ∀ {e x},(obind (Rc.lfrom.loop5 N N (l.length : Int) l 0 [] []) fun r0 => obind (Rc.lpoly.F N r0.1) fun r1 => obind (Rc.lpoly.F N r0.2) fun r2 => chk (0 <= (l.length : Int) /\ (l.length : Int) <= (l.length : Int) /\ (l.length : Int) <= ((17592186043904 : Nat) : Int))
   (obind (Rc.lfrom.loop15 N N (r0.1.length : Int) r1 r2 0 (List.replicate (l.length : Int).toNat 0)) fun r3 => obind (Rc.lfit.F N r3) fun r4 => some ((0 : Int),r4))) = some (e,x) -> Rc.r6from.F N l = some x := by
  intro e x h
  obtain ⟨r0,h0,l1,l2⟩ := lfrom_split (N:=N) hN (l:=l) (by omega) N 0 [] [] (Nat.zero_le _) rfl rfl (by omega)
  rw [show ((0 : Nat) : Int) = 0 from rfl] at h0
  obtain ⟨r1,h1,l3⟩ := lpoly_T (N:=N) hN (y:=r0.1) (by omega) (by omega)
  obtain ⟨r2,h2,l4⟩ := lpoly_T (N:=N) hN (y:=r0.2) (by omega) (by omega)
  obtain ⟨r3,h3,l5⟩ := lfrom_join (N:=N) (p:=r1) (q:=r2) (h:=r0.1.length) (n:=l.length) l3 (by omega) (by omega) (by omega) N 0 (List.replicate l.length 0) (Nat.zero_le _) List.length_replicate (by omega)
  rw [show ((0 : Nat) : Int) = 0 from rfl] at h3
  obtain ⟨r4,h4,_⟩ := lfit_T (N:=N) hN (a:=r3) (by omega)
  rw [h0,obind_of,h1,obind_of,h2,obind_of,chk_pos (by omega),Int.toNat_natCast,h3,obind_of,h4,obind_of] at h
  simp only [Option.some.injEq,Prod.mk.injEq] at h
  unfold Rc.r6from.F
  have e5 := from_split (N:=N) (l:=l) N 0 [] [] (Nat.zero_le _) (by omega)
  rw [show ((0 : Nat) : Int) = 0 from rfl] at e5
  have e15 := from_join (N:=N) (l0:=l.map (clp 0 32768)) (p:=r1) (q:=r2) (h:=r0.1.length) (n:=l.length) (by omega) (by rw [clp_len]) (by omega) N 0 (List.replicate l.length 0) (Nat.zero_le _) List.length_replicate
  rw [show ((0 : Nat) : Int) = 0 from rfl] at e15
  rw [r6clamped_F hN (by omega) (by omega),obind_of,e5,h0,obind_of,r6poly_F,h1,obind_of,r6poly_F,h2,obind_of,clp_len,chk_pos (by omega),Int.toNat_natCast,e15,h3,obind_of,r6fit_F hN (by omega) h4,obind_of,h.2]
 unfold Rc.lfrom.F at h
 simp only [br_bne] at h
 by_cases c : (l.length : Int) = 10
 ·rw [if_pos c] at h; exact main h
 ·rw [if_neg c,if_pos (by omega)] at h; exact main h
end
end Go.Pl
/-
 Layer 14: the reference's voice plays a part alike.
 Conditions: none.
-/
namespace Go.Pl
open Go.Eng Go.Proofs
def back (l : List Int) (i : Nat) : Int := if i < l.length then l.getD (l.length - 1 - i) 0 else 0
theorem back_snoc0 (l : List Int) (x : Int) : back (l ++ [x]) 0 = x := by
 unfold back
 rw [if_pos (by simp),List.length_append,List.length_singleton,show l.length + 1 - 1 - 0 = l.length by omega,List.getD_eq_getElem?_getD,List.getElem?_append_right (by omega),Nat.sub_self]
 rfl
theorem back_snoc (l : List Int) (x : Int) (i : Nat) : back (l ++ [x]) (i + 1) = back l i := by
 unfold back
 rw [List.length_append,List.length_singleton]
 by_cases c : i < l.length
 ·rw [if_pos c,if_pos (by omega),show l.length + 1 - 1 - (i + 1) = l.length - 1 - i by omega,List.getD_eq_getElem?_getD,List.getElem?_append_left (by omega),<- List.getD_eq_getElem?_getD]
 ·rw [if_neg c,if_neg (by omega)]
theorem back_drop {l : List Int} {n i : Nat} (hi : i < n) : back (l.drop (l.length - n)) i = back l i := by
 unfold back
 rw [List.length_drop]
 by_cases c : i < l.length
 ·rw [if_pos c,if_pos (by omega),List.getD_eq_getElem?_getD,List.getElem?_drop,<- List.getD_eq_getElem?_getD]
  congr 1
  omega
 ·rw [if_neg c,if_neg (by omega)]
structure RelV (v R O : List Int) : Prop where
 l : v.length = 352
 r : ∀ i,i < 320 -> v.getD i 0 = back R i
 o : ∀ k,k < 32 -> v.getD (320 + k) 0 = back O k
theorem sh14_get {v : List Int} (hv : v.length = 352) (r o : Int) : (sh14 v r o).getD 0 0 = r /\ (∀ i,i + 1 < 320 -> (sh14 v r o).getD (i + 1) 0 = v.getD i 0) /\ (sh14 v r o).getD 320 0 = o /\ ∀ k,k + 1 < 32 -> (sh14 v r o).getD (320 + (k + 1)) 0 = v.getD (320 + k) 0 := by
 unfold sh14
 have l1 : (r :: v.take 319).length = 320 := by simp [hv]
 refine ⟨rfl,fun i hi => ?_,?_,fun k hk => ?_⟩
 ·rw [List.getD_eq_getElem?_getD,List.getD_eq_getElem?_getD,List.getElem?_append_left (by omega),List.getElem?_cons_succ,List.getElem?_take,if_pos (by omega)]
 ·rw [List.getD_eq_getElem?_getD,List.getElem?_append_right (by omega),l1]
  rfl
 ·rw [List.getD_eq_getElem?_getD,List.getD_eq_getElem?_getD,List.getElem?_append_right (by omega),l1,show 320 + (k + 1) - 320 = k + 1 by omega,List.getElem?_cons_succ,List.getElem?_take,if_pos (by omega),List.getElem?_drop]
theorem RelV.step {v R O : List Int} (h : RelV v R O) (r o : Int) : RelV (sh14 v r o) (R ++ [r]) (O ++ [o]) := by
 obtain ⟨g1,g2,g3,g4⟩ := sh14_get h.l r o
 refine ⟨sh14_len h.l r o,fun i hi => ?_,fun k hk => ?_⟩
 ·cases i with
  | zero => rw [g1,back_snoc0]
  | succ i => rw [g2 i hi,back_snoc,h.r i (by omega)]
 ·cases k with
  | zero => rw [Nat.add_zero,g3,back_snoc0]
  | succ k => rw [g4 k hk,back_snoc,h.o k (by omega)]
theorem RelV.last {v R O : List Int} (h : RelV v R O) : RelV v (R.drop (R.length - 320)) (O.drop (O.length - 32)) :=
 ⟨h.l,fun i hi => by rw [back_drop hi]; exact h.r i hi,fun k hk => by rw [back_drop hk]; exact h.o k hk⟩
theorem RelV.first : RelV (List.replicate 352 0) [] [] :=
 ⟨List.length_replicate,fun i _ => zeros_getD 352 i,fun k _ => zeros_getD 352 (320 + k)⟩
section
variable {N : Nat}
theorem rahead_F {l : List Int} {i : Nat} {n : Int} (hn : n = (i : Int) + 1) (hi : i <= 1000000) (hl : l.length <= 1000000) : Rc.rahead.F N n l = some (back l i) := by
 subst hn
 unfold Rc.rahead.F back
 simp only [br_dec]
 rw [if_neg (by omega)]
 by_cases c : i < l.length
 ·rw [if_neg (by omega),if_pos c,i64 (x:=(l.length : Int) - ((i : Int) + 1)) (by omega) (by omega),chk_pos (by omega),show ((l.length : Int) - ((i : Int) + 1)).toNat = l.length - 1 - i by omega]
 ·rw [if_pos (by omega),if_neg c]
theorem rlast_F {l : List Int} {n : Nat} (hl : l.length <= 1000000) : Rc.rlast.F N (n : Int) l = some (l.drop (l.length - n)) := by
 unfold Rc.rlast.F
 simp only [br_dec]
 by_cases c : (l.length : Int) > n
 ·have e : ((l.length : Int) - n).toNat = l.length - n := by omega
  have e2 : List.take (l.length - (l.length - n)) (List.drop (l.length - n) l) = List.drop (l.length - n) l := List.take_of_length_le (by rw [List.length_drop]; omega)
  rw [if_pos c,i64 (x:=(l.length : Int) - n) (by omega) (by omega),chk_pos (by omega),e,e2,chk_pos (by rw [List.length_drop]; omega),List.nil_append]
 ·rw [if_neg c,chk_pos (by omega),List.nil_append,show l.length - n = 0 by omega,List.drop_zero]
theorem rkeep_F (v : Int) : Rc.rkeep.F N v = some (kp v) := by
 unfold Rc.rkeep.F
 rw [rclamp_F (by omega),obind_of]
 rfl
theorem rfil_loop {rate gain : Int} {ah a v R O : List Int} (h : RelV v R O) (ha : a.length <= 32) (hO : O.length <= 1000000) : ∀ (nn n k : Nat) (acc : Int),k + n = a.length -> n < nn ->
  Rc.rrun.loop14 N nn rate gain a ah acc (k : Int) R O = some (fil14 a v n k acc,R,O)
 | 0,n,k,acc,_,h => by omega
 | nn + 1,0,k,acc,hk,_ => by
  unfold Rc.rrun.loop14
  simp only [br_dec,chkI_same,chkL_same]
  rw [if_neg (by omega)]
  rfl
 | nn + 1,n + 1,k,acc,hk,hn => by
  unfold Rc.rrun.loop14
  simp only [br_dec,chkI_same,chkL_same,fm12]
  have e : ∀ x y,Rc.fmul.F N x y 12 = some (ml x y 12) := fun x y => fmul_F (s:=12) (by omega) (by omega) x y
  rw [if_pos (by omega),chk_pos (by omega),i64 (x:=(k : Int) + 1) (by omega) (by omega),rahead_F rfl (by omega) hO,obind_of,e,obind_of,Int.toNat_natCast,<- h.o k (by omega)]
  exact rfil_loop h ha hO nn n (k + 1) _ (by omega) (by omega)
theorem rrun_loop (hN : 30000 <= N) {loud lag rate gain t0 t1 t2 t3 t4 : Int} {pulses filter ah : List Int} (hp : pulses.length <= 480) (hlag : lag = 0 \/ 3 <= lag /\ lag <= 318) (hf : filter.length <= 32) : ∀ (nn k : Nat) (v o R O : List Int),k <= pulses.length -> RelV v R O -> o.length <= 1000 + k -> R.length <= 1000 + k -> O.length <= 1000 + k -> pulses.length - k < nn ->
  ∃ R' O',Rc.rrun.loop3 N nn loud lag rate gain t0 t1 t2 t3 t4 pulses filter ah (k : Int) o R O = some ((run14 loud lag [t0,t1,t2,t3,t4] filter (pulses.drop k) v o).2,R',O') /\ RelV (run14 loud lag [t0,t1,t2,t3,t4] filter (pulses.drop k) v o).1 R' O' /\ R'.length <= 1480 /\ O'.length <= 1480
 | 0,k,v,o,R,O,_,_,_,_,_,h => by omega
 | nn + 1,k,v,o,R,O,hk,hv,ho,hR,hO,h => by
  unfold Rc.rrun.loop3
  simp only [br_dec,chkI_same,chkL_same,chkN_same]
  by_cases c : k < pulses.length
  ·have ih := rrun_loop hN (loud:=loud) (lag:=lag) (rate:=rate) (gain:=gain) (t0:=t0) (t1:=t1) (t2:=t2) (t3:=t3) (t4:=t4) (ah:=ah) hp hlag hf nn (k + 1) (sh14 v (drv14 loud lag [t0,t1,t2,t3,t4] (pulses.getD k 0) v) (out14 filter v (drv14 loud lag [t0,t1,t2,t3,t4] (pulses.getD k 0) v))) (o ++ [out14 filter v (drv14 loud lag [t0,t1,t2,t3,t4] (pulses.getD k 0) v)]) (R ++ [drv14 loud lag [t0,t1,t2,t3,t4] (pulses.getD k 0) v]) (O ++ [out14 filter v (drv14 loud lag [t0,t1,t2,t3,t4] (pulses.getD k 0) v)]) (by omega) (hv.step _ _) (by simp; omega) (by simp; omega) (by simp; omega) (by omega)
   rw [show ((k + 1 : Nat) : Int) = (k : Int) + 1 by omega] at ih
   rw [if_pos (by omega),chk_pos (by omega),drop_cons c,Int.toNat_natCast,i64 (x:=(k : Int) + 1) (by omega) (by omega)]
   simp only [run14]
   have hfil := fun acc => rfil_loop (N:=N) (rate:=rate) (gain:=gain) (ah:=ah) hv hf (by omega) N filter.length 0 acc (by omega) (by omega)
   rw [show ((0 : Nat) : Int) = 0 from rfl] at hfil
   by_cases g : lag > 0
   ·have g0 : 3 <= lag /\ lag <= 318 := by omega
    have e7 : ∀ x y,Rc.fmul.F N x y 7 = some (ml x y 7) := fun x y => fmul_F (s:=7) (by omega) (by omega) x y
    have ha : ∀ j : Nat,j <= 4 -> Rc.rahead.F N (lag - 2 + (j : Int)) R = some (v.getD (lag - 3 + (j : Int)).toNat 0) := fun j hj => by
     rw [rahead_F (i:=(lag - 3 + (j : Int)).toNat) (by omega) (by omega) (by omega),<- hv.r _ (by omega)]
    have w1 : IntKind.i64.wrap (0 + 1) = 1 := by decide
    have w2 : IntKind.i64.wrap (1 + 1) = 2 := by decide
    have w3 : IntKind.i64.wrap (2 + 1) = 3 := by decide
    have w4 : IntKind.i64.wrap (3 + 1) = 4 := by decide
    have a0 := ha 0 (by omega); have a1 := ha 1 (by omega); have a2 := ha 2 (by omega); have a3 := ha 3 (by omega); have a4 := ha 4 (by omega)
    rw [show ((0 : Nat) : Int) = 0 from rfl] at a0
    rw [show ((1 : Nat) : Int) = 1 from rfl] at a1
    rw [show ((2 : Nat) : Int) = 2 from rfl] at a2
    rw [show ((3 : Nat) : Int) = 3 from rfl] at a3
    rw [show ((4 : Nat) : Int) = 4 from rfl] at a4
    have hd : drv14 loud lag [t0,t1,t2,t3,t4] (pulses.getD k 0) v = kp (IntKind.i64.wrap (IntKind.i64.wrap (IntKind.i64.wrap (IntKind.i64.wrap (IntKind.i64.wrap (IntKind.i64.wrap (pulses.getD k 0 * loud) + ml t0 (v.getD (lag - 3 + 0).toNat 0) 7) + ml t1 (v.getD (lag - 3 + 1).toNat 0) 7) + ml t2 (v.getD (lag - 3 + 2).toNat 0) 7) + ml t3 (v.getD (lag - 3 + 3).toNat 0) 7) + ml t4 (v.getD (lag - 3 + 4).toNat 0) 7)) := by
     unfold drv14
     rw [if_pos g]
     rfl
    rw [if_pos g,i64 (x:=lag - 2) (by omega) (by omega)]
    simp only [w1,w2,w3,w4,fm7,e7]
    rw [i64 (x:=lag - 2 + 0) (by omega) (by omega),i64 (x:=lag - 2 + 1) (by omega) (by omega),i64 (x:=lag - 2 + 2) (by omega) (by omega),i64 (x:=lag - 2 + 3) (by omega) (by omega),i64 (x:=lag - 2 + 4) (by omega) (by omega),a0,obind_of,obind_of,a1,obind_of,obind_of,a2,obind_of,obind_of,a3,obind_of,obind_of,a4,obind_of,obind_of,rkeep_F,obind_of,<- hd,hfil,obind_of]
    simp only
    rw [rkeep_F,obind_of,chk_pos (by simp; omega),chk_pos (by simp; omega),chk_pos (by simp; omega)]
    exact ih
   ·have hd : drv14 loud lag [t0,t1,t2,t3,t4] (pulses.getD k 0) v = kp (IntKind.i64.wrap (pulses.getD k 0 * loud)) := by unfold drv14; rw [if_neg g]
    rw [if_neg g,rkeep_F,obind_of,<- hd,hfil,obind_of]
    simp only
    rw [rkeep_F,obind_of,chk_pos (by simp; omega),chk_pos (by simp; omega),chk_pos (by simp; omega)]
    exact ih
  ·rw [if_neg (by omega),List.drop_eq_nil_of_le (by omega)]
   exact ⟨R,O,rfl,hv,by omega,by omega⟩
theorem rrun_F (hN : 30000 <= N) {loud lag rate gain t0 t1 t2 t3 t4 : Int} {pulses filter ah v R O : List Int} (hp : pulses.length <= 480) (hlag : lag = 0 \/ 3 <= lag /\ lag <= 318) (hf : filter.length <= 32) (hv : RelV v R O) (hR : R.length <= 1000) (hO : O.length <= 1000) :
  ∃ R' O',Rc.rrun.F N loud lag t0 t1 t2 t3 t4 rate gain pulses filter R O ah = some ((run14 loud lag [t0,t1,t2,t3,t4] filter pulses v []).2,R',O') /\ RelV (run14 loud lag [t0,t1,t2,t3,t4] filter pulses v []).1 R' O' /\ R'.length <= 1000 /\ O'.length <= 1000 := by
 obtain ⟨R1,O1,e,h1,h2,h3⟩ := rrun_loop hN (loud:=loud) (lag:=lag) (rate:=rate) (gain:=gain) (t0:=t0) (t1:=t1) (t2:=t2) (t3:=t3) (t4:=t4) (ah:=ah) hp hlag hf N 0 v [] R O (Nat.zero_le _) hv (by simp) (by omega) (by omega) (by omega)
 rw [List.drop_zero] at e h1
 rw [show ((0 : Nat) : Int) = 0 from rfl] at e
 unfold Rc.rrun.F
 simp only [chkI_same,chkL_same]
 have f1 := rlast_F (N:=N) (l:=R1) (n:=320) (by omega)
 have f2 := rlast_F (N:=N) (l:=O1) (n:=32) (by omega)
 rw [show ((320 : Nat) : Int) = 320 from rfl] at f1
 rw [show ((32 : Nat) : Int) = 32 from rfl] at f2
 refine ⟨R1.drop (R1.length - 320),O1.drop (O1.length - 32),?_,h1.last,by rw [List.length_drop]; omega,by rw [List.length_drop]; omega⟩
 rw [e,obind_of]
 simp only
 rw [f1,obind_of,f2,obind_of]
theorem rtaps_F {i : Int} (h0 : 0 <= i) (h1 : i <= 7) : Rc.rtaps.F N i = some (five (tapV i)) := by
 have : i = 0 \/ i = 1 \/ i = 2 \/ i = 3 \/ i = 4 \/ i = 5 \/ i = 6 \/ i = 7 := by omega
 rcases this with rfl | rfl | rfl | rfl | rfl | rfl | rfl | rfl <;> rfl
theorem rpcm_F (hN : 30000 <= N) {s : List Int} (hn : s.length <= 10000) : Rc.rpcm.F N s = some (pcm14 s) := by
 have e4 : ∀ x y,Rc.fmul.F N x y 4 = some (ml x y 4) := fun x y => fmul_F (s:=4) (by omega) (by omega) x y
 have hs : ∀ v,Rc.rsat.F N v = some (clp (-32768) 32767 v) := fun v => by
  unfold Rc.rsat.F
  rw [rclamp_F (by omega),obind_of]
 have loop : ∀ (nn k : Nat) (l : List Int),k <= s.length -> l = (pcm14 s).take k -> s.length - k < nn -> Rc.rpcm.loop3 N nn s (k : Int) l = some (pcm14 s) := by
  intro nn
  induction nn with
  | zero => intro k l _ _ h; omega
  | succ nn ih =>
   intro k l hk ht h
   unfold Rc.rpcm.loop3
   simp only [br_dec,chkI_same,chkL_same,fm4]
   by_cases c : k < s.length
   ·have hlen : l.length = k := by rw [ht,List.length_take,pcm14,List.length_map]; omega
    rw [if_pos (by omega),chk_pos (by omega),e4,obind_of,hs,obind_of,chk_pos (by simp; omega),Int.toNat_natCast,i64 (x:=(k : Int) + 1) (by omega) (by omega)]
    exact ih (k + 1) _ (by omega) (apprun (f:=fun x => clp (-32768) 32767 (ml x 1 4)) c ht) (by omega)
   ·rw [if_neg (by omega),ht,List.take_of_length_le (by simp [pcm14]; omega)]
 unfold Rc.rpcm.F
 refine obind_step (loop N 0 [] (Nat.zero_le _) (by simp) (by omega)) ?_
 rfl
end
end Go.Pl
/-
 Layer 14: frames out of bytes, played one after the other.
 Conditions: none.
-/
namespace Go.Pl
open Go.Eng Go.Proofs
def StepsB (l : List (List Int)) : Prop := ∀ r ∈ l,Bytes r.tail /\ r.tail.length < 140737488351233
abbrev fn14 (b : List Int) (rate ms was : Int) : FR := fr14 b rate ms was (RS.new b)
abbrev FR.err (f : FR) (b : List Int) : Rc.spreadf.R := (f.kind,f.one,f.btw,0,f.s.q.rng,f.s.q.val,f.s.q.last,fr b f.s.q.m,fr b f.s.w.k,f.s.w.win,(f.s.w.wai : Int),f.s.ct,f.fresh,f.s.bad,f.two,f.gains,f.pulses,f.ltps)
theorem read_new {N : Nat} (hN : 30000 <= N) {b : List Int} (hb : Bytes b) (hl : b.length < 140737488351233) {rate ms : Int} (hm : May14 rate ms) (was : Int) :
  Rc.spreadf.F N rate ms was (Q.new b).rng (Q.new b).val (Q.new b).last (fr b (Q.new b).m) 0 0 0 (cnew b) false b = some ((fn14 b rate ms was).err b) := by
 have h := spreadf_F (N:=N) hb hl hm was (RS.new_ok hb) (by omega) hN
 rw [RS.new_ct] at h
 exact h
theorem fn14_good {b : List Int} (hb : Bytes b) {rate ms : Int} (hm : May14 rate ms) (was : Int) :
  GoodF rate ms (fn14 b rate ms was).kind (fn14 b rate ms was).one (fn14 b rate ms was).btw (fn14 b rate ms was).two (fn14 b rate ms was).gains (fn14 b rate ms was).pulses (fn14 b rate ms was).ltps := fr14_good hb hm was (RS.new_ok hb) (by omega)
theorem good_ltps {rate ms kind one btw : Int} {two gains pulses : List Int} {ltps : List (List Int)} (hG : GoodF rate ms kind one btw two gains pulses ltps) : ltps.length <= 4 := by
 have := hG.lt
 have := (may_facts hG.may).2.2.2.1
 split at * <;> simp_all
theorem plgain_G {N : Nat} {rate gain : Int} {voice ahead : List Int} : Rc.plgain.F N rate gain voice ahead = some gain := by
 unfold Rc.plgain.F
 simp only [chkI_same,chkL_same]
section
variable {N : Nat}
end
theorem ord14_pos {rate : Int} (h : ¬ (ord14 rate : Int) = 0) : rate = 8000 \/ rate = 16000 := by
 unfold ord14 at h
 split at h
 ·exact Or.inl (by assumption)
 ·split at h
  ·exact Or.inr (by assumption)
  ·simp at h
theorem synew_F {N : Nat} : Rc.synew.F N = some (List.replicate 352 0) := rfl
theorem first_S {rate : Int} (h : rate = 8000 \/ rate = 16000) : GoodS rate (List.replicate 352 0) (ah14 (ord14 rate)) := ⟨h,List.length_replicate,ah14_len _⟩
end Go.Pl
/-
 Layer 14: SpeechPlays.
 Conditions: none.
-/
namespace Go.Pl
open Go.Eng Go.Proofs
section
variable {N : Nat}
theorem rploop_F (hN : 30000 <= N) {n cnt half : Nat} {ms kind : Int} {gains pulses : List Int} {ltps : List (List Int)} {a1 a2 : List Int} (h : GoodR n cnt kind gains pulses ltps a1 a2) (hk0 : 0 <= kind) (hms : ms.tdiv 5 = (cnt : Int)) (hm2 : ms.tdiv 10 = (half : Int)) (hch : cnt = 2 * half) {rate gain one btw : Int} {fresh : Bool} {two ah : List Int} : ∀ (nn k : Nat) (v o R O : List Int),k <= cnt -> RelV v R O -> R.length <= 1000 -> O.length <= 1000 -> o.length = n * k -> cnt - k < nn ->
  ∃ R' O',Rc.rplay.loop10 N nn ms (n : Int) rate gain kind one btw fresh two gains (ltps.map fun r => r.headD 0) (ltps.map fun r => r.tail.headD 0) pulses (k : Int) ah a1 a2 o R O =
   some (ah,a1,a2,(pr14 n cnt kind gains pulses ltps a1 a2 (cnt - k) k v o).2,R',O') /\ RelV (pr14 n cnt kind gains pulses ltps a1 a2 (cnt - k) k v o).1 R' O' /\ R'.length <= 1000 /\ O'.length <= 1000
 | 0,k,v,o,R,O,_,_,_,_,_,hh => by omega
 | nn + 1,k,v,o,R,O,hk,hv,hR,hO,ho,hh => by
  have n0 := h.n0
  have n1 := h.n1
  have hc := h.c
  have hg := h.g
  unfold Rc.rplay.loop10
  simp only [br_dec,br_beq,chkI_same,chkL_same,chkB_same]
  rw [hms,hm2,i64 (x:=(cnt : Int)) (by omega) (by omega),i64 (x:=(half : Int)) (by omega) (by omega)]
  by_cases c : k < cnt
  ·have hnk : n * k <= 100 * 100 := Nat.mul_le_mul n1 (by omega)
   have hkn : k * n = n * k := Nat.mul_comm _ _
   have hn1 : n * (k + 1) = n * k + n := Nat.mul_succ n k
   have hsp : n * (k + 1) <= n * cnt := Nat.mul_le_mul_left _ c
   obtain ⟨q1,q2⟩ := part14_len h c hv.l
   obtain ⟨gp,gt⟩ := part14_good h c
   have hp480 := gp.n1
   obtain ⟨R1,O1,hrun,hv1,hR1,hO1⟩ := rrun_F hN (rate:=rate) (gain:=gain) (ah:=ah) (t0:=(tp14 kind ltps k).getD 0 0) (t1:=(tp14 kind ltps k).getD 1 0) (t2:=(tp14 kind ltps k).getD 2 0) (t3:=(tp14 kind ltps k).getD 3 0) (t4:=(tp14 kind ltps k).getD 4 0) (loud:=gz (c63 (gains.getD k 0))) gp.n1 gp.lag gp.f hv hR hO
   rw [<- gt.2.2.2.2.2] at hrun hv1
   have hrun : Rc.rrun.F N (gz (c63 (gains.getD k 0))) (lag14 kind ltps k) ((tp14 kind ltps k).getD 0 0) ((tp14 kind ltps k).getD 1 0) ((tp14 kind ltps k).getD 2 0) ((tp14 kind ltps k).getD 3 0) ((tp14 kind ltps k).getD 4 0) rate gain (pp14 n kind pulses k) (if 2 * k < cnt then a1 else a2) R O ah = some ((part14 n cnt kind gains pulses ltps a1 a2 k v).2,R1,O1) := hrun
   have hv1 : RelV (part14 n cnt kind gains pulses ltps a1 a2 k v).1 R1 O1 := hv1
   have ih := rploop_F hN h hk0 hms hm2 hch (rate:=rate) (gain:=gain) (one:=one) (btw:=btw) (fresh:=fresh) (two:=two) (ah:=ah) nn (k + 1) (part14 n cnt kind gains pulses ltps a1 a2 k v).1 (o ++ (part14 n cnt kind gains pulses ltps a1 a2 k v).2) R1 O1 (by omega) hv1 hR1 hO1 (by rw [List.length_append]; omega) (by omega)
   rw [show ((k + 1 : Nat) : Int) = (k : Int) + 1 by omega] at ih
   have e3 : cnt - k = (cnt - (k + 1)) + 1 := by omega
   rw [e3]
   simp only [pr14]
   generalize part14 n cnt kind gains pulses ltps a1 a2 k v = P at ih hrun q1 q2
   have hC : o.length + P.2.length <= 17592186043904 := by omega
   have hz : (k : Int) * (n : Int) = ((k * n : Nat) : Int) := by simp
   have hz2 : (k : Int) * (n : Int) + n = ((k * n + n : Nat) : Int) := by simp
   have hcp : kind ≠ 0 -> List.take (k * n + n - k * n) (List.drop (k * n) pulses) = pp14 n kind pulses k := fun h0 => by
    unfold pp14
    rw [if_neg h0,show k * n + n - k * n = n by omega]
   have hz0 : kind = 0 -> List.replicate n (0 : Int) = pp14 n kind pulses k := fun h0 => by unfold pp14; rw [if_pos h0]
   have hck : kind ≠ 0 -> k * n + n <= pulses.length := fun h0 => by
    have := (h.p h0).1
    omega
   have hlt : kind = 2 -> k < ltps.length /\ Rc.rtaps.F N ((ltps.map fun r => r.tail.headD 0).getD k 0) = some ((tp14 kind ltps k).getD 0 0,(tp14 kind ltps k).getD 1 0,(tp14 kind ltps k).getD 2 0,(tp14 kind ltps k).getD 3 0,(tp14 kind ltps k).getD 4 0) /\ (ltps.map fun r => r.headD 0).getD k 0 = lag14 kind ltps k := fun h2 => by
    obtain ⟨l1,l2⟩ := h.l h2
    have hm : ltps.getD k [] ∈ ltps := by rw [List.getD_eq_getElem?_getD,List.getElem?_eq_getElem (by omega)]; exact List.getElem_mem (by omega)
    obtain ⟨b1,b2,b3,b4⟩ := l2 _ hm
    have g1 : (ltps.map fun r => r.tail.headD 0).getD k 0 = (ltps.getD k []).tail.headD 0 := by simp [List.getD_eq_getElem?_getD,show k < ltps.length by omega]
    have g2 : (ltps.map fun r => r.headD 0).getD k 0 = (ltps.getD k []).headD 0 := by simp [List.getD_eq_getElem?_getD,show k < ltps.length by omega]
    refine ⟨by omega,?_,by unfold lag14; rw [if_pos h2,g2]⟩
    rw [g1,rtaps_F b3 b4]
    unfold tp14
    rw [if_pos h2]
    rfl
   have hl0 : kind ≠ 2 -> (tp14 kind ltps k).getD 0 0 = 0 /\ (tp14 kind ltps k).getD 1 0 = 0 /\ (tp14 kind ltps k).getD 2 0 = 0 /\ (tp14 kind ltps k).getD 3 0 = 0 /\ (tp14 kind ltps k).getD 4 0 = 0 /\ lag14 kind ltps k = 0 := fun h2 => by
    unfold tp14 lag14
    rw [if_neg h2,if_neg h2]
    exact ⟨rfl,rfl,rfl,rfl,rfl,rfl⟩
   rw [if_pos (by omega),i64 (x:=(k : Int) * n) (by omega) (by omega),i64 (x:=(k : Int) * n + n) (by omega) (by omega),i64 (x:=(k : Int) + 1) (by omega) (by omega),hz2,hz]
   simp only [Int.toNat_natCast]
   by_cases d : 2 * k < cnt
   ·rw [if_neg (show ¬ (k : Int) >= (half : Int) by omega),chk_pos (by omega)]
    rw [if_pos d] at hrun
    by_cases k0 : kind = 0
    ·have k2 : kind ≠ 2 := by omega
     obtain ⟨t0,t1,t2,t3,t4,t5⟩ := hl0 k2
     rw [t0,t1,t2,t3,t4,t5] at hrun
     rw [if_neg (by omega),if_neg k2,chk_pos (by omega),rloud_F (by omega),obind_of,hz0 k0,hrun,obind_of,chk_pos hC]
     exact ih
    ·rw [if_pos (by omega),chk_pos (by have := hck k0; omega),chk_pos (by omega),hcp k0]
     by_cases k2 : kind = 2
     ·obtain ⟨t0,t1,t2⟩ := hlt k2
      rw [if_pos k2,chk_pos (by rw [List.length_map]; omega),chk_pos (by rw [List.length_map]; omega),t1,obind_of,chk_pos (by omega),rloud_F (by omega),obind_of,t2]
      simp only
      rw [hrun,obind_of,chk_pos hC]
      exact ih
     ·obtain ⟨t0,t1,t2,t3,t4,t5⟩ := hl0 k2
      rw [t0,t1,t2,t3,t4,t5] at hrun
      rw [if_neg k2,chk_pos (by omega),rloud_F (by omega),obind_of,hrun,obind_of,chk_pos hC]
      exact ih
   ·rw [if_pos (show (k : Int) >= (half : Int) by omega),chk_pos (by omega)]
    rw [if_neg d] at hrun
    by_cases k0 : kind = 0
    ·have k2 : kind ≠ 2 := by omega
     obtain ⟨t0,t1,t2,t3,t4,t5⟩ := hl0 k2
     rw [t0,t1,t2,t3,t4,t5] at hrun
     rw [if_neg (by omega),if_neg k2,chk_pos (by omega),rloud_F (by omega),obind_of,hz0 k0,hrun,obind_of,chk_pos hC]
     exact ih
    ·rw [if_pos (by omega),chk_pos (by have := hck k0; omega),chk_pos (by omega),hcp k0]
     by_cases k2 : kind = 2
     ·obtain ⟨t0,t1,t2⟩ := hlt k2
      rw [if_pos k2,chk_pos (by rw [List.length_map]; omega),chk_pos (by rw [List.length_map]; omega),t1,obind_of,chk_pos (by omega),rloud_F (by omega),obind_of,t2]
      simp only
      rw [hrun,obind_of,chk_pos hC]
      exact ih
     ·obtain ⟨t0,t1,t2,t3,t4,t5⟩ := hl0 k2
      rw [t0,t1,t2,t3,t4,t5] at hrun
      rw [if_neg k2,chk_pos (by omega),rloud_F (by omega),obind_of,hrun,obind_of,chk_pos hC]
      exact ih
  ·have hkk : k = cnt := by omega
   rw [if_neg (by omega),hkk,Nat.sub_self]
   exact ⟨R,O,rfl,hv,hR,hO⟩
theorem rtalker_F (hN : 30000 <= N) (rate : Int) : Rc.rtalker.F N rate = some (rate,20,[],[],ah14 (ord14 rate)) := by
 have ho := ord14_le rate
 have loop : ∀ (nn k : Nat) (l : List Int),k <= ord14 rate -> l = (ah14 (ord14 rate)).take k -> ord14 rate - k < nn -> Rc.rtalker.loop4 N nn (ord14 rate : Int) rate 20 (k : Int) l = some (ah14 (ord14 rate)) := by
  intro nn
  induction nn with
  | zero => intro k l _ _ h; omega
  | succ nn ih =>
   intro k l hk ht h
   unfold Rc.rtalker.loop4
   simp only [br_dec,chkI_same]
   by_cases c : k < ord14 rate
   ·have hlen : l.length = k := by rw [ht,List.length_take,ah14_len]; omega
    have hd : (0 : Int) <= (32768 * ((k : Int) + 1)).tdiv ((ord14 rate : Int) + 1) /\ (32768 * ((k : Int) + 1)).tdiv ((ord14 rate : Int) + 1) <= 32768 * ((k : Int) + 1) := by
     rw [Int.tdiv_eq_ediv_of_nonneg (by omega)]
     exact ⟨Int.ediv_nonneg (by omega) (by omega),Int.ediv_le_self _ (by omega)⟩
    rw [if_pos (by omega),i64 (x:=(ord14 rate : Int) + 1) (by omega) (by omega),i64 (x:=(k : Int) + 1) (by omega) (by omega),i64 (x:=32768 * ((k : Int) + 1)) (by omega) (by omega),i64 (x:=(32768 * ((k : Int) + 1)).tdiv ((ord14 rate : Int) + 1)) (by omega) (by omega),chk_pos (by omega),chk_pos (by simp; omega)]
    refine ih (k + 1) _ (by omega) ?_ (by omega)
    rw [List.take_add_one,ht]
    congr 1
    simp [ah14,c]
   ·rw [if_neg (by omega),ht,List.take_of_length_le (by rw [ah14_len]; omega)]
 unfold Rc.rtalker.F
 rw [rorder_F,obind_of]
 refine obind_step (loop N 0 [] (Nat.zero_le _) (by simp) (by omega)) ?_
 rfl
theorem half14 {rate ms : Int} (h : May14 rate ms) : ∃ half : Nat,ms.tdiv 10 = (half : Int) /\ cnt14 ms = 2 * half := by
 obtain ⟨_,rfl | rfl⟩ := h
 ·exact ⟨1,by decide,by decide⟩
 ·exact ⟨2,by decide,by decide⟩
theorem rplay_F (hN : 30000 <= N) {rate ms kind one btw gain : Int} {fresh : Bool} {two gains pulses voice R O ahead : List Int} {ltps : List (List Int)} (hg : GoodF rate ms kind one btw two gains pulses ltps) (hv : RelV voice R O) (hR : R.length <= 1000) (hO : O.length <= 1000) {l h a1 a2 : List Int} (hm : Mid N rate one btw two (if fresh then ah14 (ord14 rate) else ahead) l h a1 a2) (ha : ahead.length = ord14 rate) :
  ∃ R' O',Rc.rplay.F N ms kind one btw rate gain fresh two gains (ltps.map fun r => r.headD 0) (ltps.map fun r => r.tail.headD 0) pulses R O ahead =
   some (rate,gains.getLastD 20,pcm14 (pr14 (wd14 rate) (cnt14 ms) kind gains pulses ltps a1 a2 (cnt14 ms) 0 (if fresh then List.replicate 352 0 else voice) []).2,R',O',l) /\
   RelV (pr14 (wd14 rate) (cnt14 ms) kind gains pulses ltps a1 a2 (cnt14 ms) 0 (if fresh then List.replicate 352 0 else voice) []).1 R' O' /\ R'.length <= 1000 /\ O'.length <= 1000 := by
 obtain ⟨m1,m2,m3,m4,m5,m6,m7,m8⟩ := may_facts hg.may
 obtain ⟨w0,w1,w2,w3⟩ := wd14_of hg.may
 obtain ⟨half,hh1,hh2⟩ := half14 hg.may
 have ho := ord14_le rate
 have hord : ord14 rate = 10 \/ ord14 rate = 16 := by rcases hg.may.1 with rfl | rfl <;> decide
 have hgl := hg.ga.1
 have hGR := goodR_of hg hm.g1 hm.g2
 have hA : (if fresh then ah14 (ord14 rate) else ahead).length = ord14 rate := by
  cases fresh with
  | true => exact ah14_len _
  | false => exact ha
 obtain ⟨x1,e1⟩ := hm.d
 obtain ⟨x2,e2⟩ := hm.b
 obtain ⟨x3,e3⟩ := hm.f1
 obtain ⟨x4,e4⟩ := hm.f2
 have hll := hm.ll
 have hhl : h.length = ord14 rate := by
  obtain ⟨r,hr,hrl⟩ := lbetween_T (N:=N) hN (w:=btw) (a:=if fresh then ah14 (ord14 rate) else ahead) (b:=l) (by omega) (by omega) hg.bt.1 hg.bt.2
  rw [hr] at e2
  simp only [Option.some.injEq] at e2
  rw [e2] at hrl
  exact hrl.trans hA
 have d1 := r6decode_F hN hg.may.1 hg.on.1 hg.on.2 hg.tw.1 hg.tw.2 e1
 have d2 := r6between_F hN (by omega) (by omega) hg.bt.1 hg.bt.2 e2
 have d3 := lfrom_ok hN (by omega) e3
 have d4 := lfrom_ok hN (by omega) e4
 have glast : gains.getD (gains.length - 1) 0 = gains.getLastD 20 := by
  rw [List.getLastD_eq_getLast?,List.getLast?_eq_getElem?,List.getD_eq_getElem?_getD,List.getElem?_eq_getElem (by omega)]
  rfl
 have elast : ((gains.length : Int) - 1).toNat = gains.length - 1 := by omega
 unfold Rc.rplay.F
 cases fresh with
 | true =>
  simp only [if_true] at d2 ⊢
  obtain ⟨R',O',hl1,hv1,hR1,hO1⟩ := rploop_F hN hGR hg.kd.1 m2 hh1 hh2 (rate:=rate) (gain:=20) (one:=one) (btw:=btw) (fresh:=true) (two:=two) (ah:=ah14 (ord14 rate)) N 0 (List.replicate 352 0) [] [] [] (Nat.zero_le _) RelV.first (by simp) (by simp) rfl (by omega)
  have hlen := (pr14_len hGR (cnt14 ms) 0 (List.replicate 352 0) [] (by omega) List.length_replicate).2
  rw [Nat.sub_zero] at hl1 hv1
  refine ⟨R',O',?_,hv1,hR1,hO1⟩
  rw [br_true,rtalker_F hN,obind_of]
  simp only
  rw [rorder_F,obind_of,d1,obind_of,d2,obind_of,d3,obind_of,d4,obind_of,w0,i64 (x:=(wd14 rate : Int)) (by omega) (by omega)]
  rw [show ((0 : Nat) : Int) = 0 from rfl] at hl1
  rw [hl1,obind_of,i64 (x:=(gains.length : Int) - 1) (by omega) (by omega),chk_pos (by omega)]
  simp only
  rw [rpcm_F hN (by rw [hlen]; simp only [List.length_nil]; omega),obind_of,elast,glast]
 | false =>
  simp only [Bool.false_eq_true,if_false] at d2 ⊢
  obtain ⟨R',O',hl1,hv1,hR1,hO1⟩ := rploop_F hN hGR hg.kd.1 m2 hh1 hh2 (rate:=rate) (gain:=gain) (one:=one) (btw:=btw) (fresh:=false) (two:=two) (ah:=ahead) N 0 voice [] R O (Nat.zero_le _) hv hR hO rfl (by omega)
  have hlen := (pr14_len hGR (cnt14 ms) 0 voice [] (by omega) hv.l).2
  rw [Nat.sub_zero] at hl1 hv1
  refine ⟨R',O',?_,hv1,hR1,hO1⟩
  rw [br_false,rorder_F,obind_of,d1,obind_of,d2,obind_of,d3,obind_of,d4,obind_of,w0,i64 (x:=(wd14 rate : Int)) (by omega) (by omega)]
  rw [show ((0 : Nat) : Int) = 0 from rfl] at hl1
  rw [hl1,obind_of,i64 (x:=(gains.length : Int) - 1) (by omega) (by omega),chk_pos (by omega)]
  simp only
  rw [rpcm_F hN (by rw [hlen]; simp only [List.length_nil]; omega),obind_of,elast,glast]
theorem plays_loop (hN : 30000 <= N) {l : List (List Int)} (hl : StepsB l) (hl1 : l.length <= 1000) {rt rate : Int} {ls : List (List Int)} {s4 : Bool} : ∀ (nn i : Nat) (gain : Int) (v a R O : List Int),i <= l.length -> l.length - i < nn -> GoodS rate v a -> RelV v R O -> R.length <= 1000 -> O.length <= 1000 ->
  osum (Rc.speechPlays.loop12 N rt ls nn rate rate l (i : Int) gain rate gain s4 v a R O a) (fun _ => some true) = some true
 | 0,i,gain,v,a,R,O,_,h,_,_,_,_ => by omega
 | nn + 1,i,gain,v,a,R,O,hi,h,hS,hv,hR,hO => by
  unfold Rc.speechPlays.loop12
  simp only [br_dec,br_bne,br_beq,chkI_same,chkR_same]
  by_cases c : i < l.length
  ·have hm : l.getD i [] ∈ l := by rw [List.getD_eq_getElem?_getD,List.getElem?_eq_getElem c]; exact List.getElem_mem c
   obtain ⟨hb,hbl⟩ := hl _ hm
   rw [if_pos (by omega),chk_pos (by omega),Int.toNat_natCast,new_F hb hbl (by omega),obind_of,chk_pos (by omega),plgain_G,obind_of,i64 (x:=(i : Int) + 1) (by omega) (by omega)]
   simp only
   rcases Classical.em (¬ May14 rate ((l.getD i []).headD 0)) with hq | hq
   ·rw [spreadf_not hq,obind_of]
    simp only
    rw [if_neg (by decide),if_pos trivial]
    rfl
   have hq := Classical.not_not.1 hq
   have hG := fn14_good hb hq gain
   have hlt := good_ltps hG
   rw [read_new hN hb hbl hq gain,obind_of]
   simp only
   rw [if_pos trivial,chk_pos (by omega)]
   by_cases c2 : ((l.getD i []).tail.length : Int) > 1500
   ·rw [if_pos c2,if_neg (by decide),chk_pos (by omega),decide_eq_true c2]
    rfl
   rw [if_neg c2,chk_pos (by omega)]
   generalize fn14 (l.getD i []).tail rate ((l.getD i []).headD 0) gain = f at hG hlt
   have hA : (if f.fresh then ah14 (ord14 rate) else a).length = ord14 rate := by
    cases f.fresh with
    | true => exact ah14_len _
    | false => exact hS.a
   have hV : (if f.fresh then List.replicate 352 0 else v).length = 352 := by
    cases f.fresh with
    | true => exact List.length_replicate
    | false => exact hS.v
   obtain ⟨fl,fh,a1,a2,hmid⟩ := mid_T hN hG hA
   obtain ⟨R',O',hp,hv',hR',hO'⟩ := rplay_F (fresh:=f.fresh) (gain:=gain) hN hG hv hR hO hmid hS.a
   obtain ⟨m1,m2,m3,m4,m5,m6,m7,m8⟩ := may_facts hq
   obtain ⟨w0,w1,w2,w3⟩ := wd14_of hq
   obtain ⟨p1,p2⟩ := pr14_len (goodR_of hG hmid.g1 hmid.g2) (cnt14 ((l.getD i []).headD 0)) 0 _ [] (by omega) hV
   have hlen : (pcm14 (pr14 (wd14 rate) (cnt14 ((l.getD i []).headD 0)) f.kind f.gains f.pulses f.ltps a1 a2 (cnt14 ((l.getD i []).headD 0)) 0 (if f.fresh then List.replicate 352 0 else v) []).2).length <= 480 := by
    simp only [pcm14,List.length_map]
    rw [p2,w3]
    simp only [List.length_nil]
    omega
   rw [play_F (fresh:=f.fresh) hN hG hS.v hmid (by omega),obind_of]
   simp only
   rw [if_pos trivial,chk_pos (by omega),own14_F (by omega) (by omega),obind_of]
   simp only
   rw [hp,obind_of]
   simp only
   rw [same14_F _ _ (by omega) (by omega),obind_of,decide_eq_true rfl,br_not,if_pos rfl,plgain_G,obind_of,if_pos rfl]
   exact plays_loop hN hl hl1 nn (i + 1) _ _ _ _ _ (by omega) (by omega) ⟨hS.r,p1,hmid.ll⟩ hv' hR' hO'
  ·rw [if_neg (by omega),osum_inl]
end
theorem speechPlays_pure (rate : Int) (l : List (List Int)) (hl : StepsB l) : ∃ N,Rc.speechPlays.F N rate l = some true := by
 refine ⟨30000,?_⟩
 have hN : 30000 <= 30000 := Nat.le_refl _
 unfold Rc.speechPlays.F
 rw [awake14_F (by omega),obind_of]
 simp only [br_not,if_true,br_dec,br_beq,br_bne]
 by_cases c1 : (l.length : Int) > 6
 ·rw [if_pos c1]
 rw [if_neg c1,torder_F,obind_of]
 by_cases c2 : (ord14 rate : Int) = 0
 ·have h1 : rate ≠ 8000 := fun h => by rw [h] at c2; revert c2; decide
  have h2 : rate ≠ 16000 := fun h => by rw [h] at c2; revert c2; decide
  rw [if_pos c2,if_neg h1,if_neg h2]
 have hr := ord14_pos c2
 rw [if_neg c2,synew_F,obind_of,plreset_F hN List.length_replicate,obind_of]
 have hlp := plays_loop hN hl (by omega) (rt:=rate) (rate:=rate) (ls:=l) (s4:=false) 30000 0 20 (List.replicate 352 0) (ah14 (ord14 rate)) [] [] (Nat.zero_le _) (by omega) (first_S hr) RelV.first (by simp) (by simp)
 rw [show ((0 : Nat) : Int) = 0 from rfl] at hlp
 rcases hr with rfl | rfl
 ·rw [if_pos rfl,rtalker_F hN,obind_of]
  exact hlp
 ·rw [if_neg (by decide),if_pos rfl,rtalker_F hN,obind_of]
  exact hlp
end Go.Pl
