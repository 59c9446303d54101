/-
 Layer 8, common parts: bounds of a loudness, from where to where a voice repeats.
 Conditions: none.
-/
import Derived.Test.YtghbobmkkbdhpaaGreatPlBaseToPlRen5
import Derived.Test.YtghbobmkkbdhpaaGreatPlKnown8
set_option linter.unusedVariables false
set_option linter.unusedSimpArgs false
namespace Go.Pl
open Go.Eng Go.Proofs
def c63 (v : Int) : Int := if v < 0 then 0 else if v > 63 then 63 else v
theorem c63_range (v : Int) : 0 <= c63 v /\ c63 v <= 63 := by
 unfold c63
 split
 ·omega
 ·split <;> omega
theorem gclamp_F {N : Nat} (v : Int) : Rc.gclamp.F N v = some (c63 v) := by
 unfold Rc.gclamp.F c63
 congr 1
 split <;> split <;> first | rfl | omega | (exfalso; omega) | (split <;> first | rfl | (exfalso; omega))
theorem rclamp63 {N : Nat} (v : Int) : Rc.rclamp.F N v 0 63 = some (c63 v) := by
 unfold Rc.rclamp.F c63
 simp only [br_dec]
 by_cases c1 : v < 0
 ·rw [if_pos c1,if_pos c1]
 rw [if_neg c1,if_neg c1,if_neg (by omega)]
 by_cases c2 : v > 63
 ·rw [if_pos c2,if_pos c2]
 ·rw [if_neg c2,if_neg c2]
def c8 (v : Int) : Int := if v < -8 then -8 else if v > 8 then 8 else v
def lo8 (rate : Int) : Int := if rate = 8000 then 16 else if rate = 16000 then 32 else 0
def hi8 (rate : Int) : Int := if rate = 8000 then 144 else if rate = 16000 then 288 else 0
theorem glags_F {N : Nat} (rate : Int) : Rc.glags.F N rate = some (lo8 rate,hi8 rate) := by
 unfold Rc.glags.F lo8 hi8
 simp only [br_bne]
 by_cases c1 : rate = 8000
 ·subst c1; rfl
 by_cases c2 : rate = 16000
 ·subst c2; rfl
 rw [if_neg c1,if_neg c2,if_neg c1,if_neg c2,if_neg c1,if_neg c2]
theorem lags_of (rate : Int) : (lo8 rate = 16 /\ hi8 rate = 144) \/ (lo8 rate = 32 /\ hi8 rate = 288) \/ (lo8 rate = 0 /\ hi8 rate = 0) := by
 unfold lo8 hi8
 split
 ·exact Or.inl ⟨rfl,rfl⟩
 ·split
  ·exact Or.inr (Or.inl ⟨rfl,rfl⟩)
  ·exact Or.inr (Or.inr ⟨rfl,rfl⟩)
theorem ticdf_F {N : Nat} (n : Int) : Rc.ticdf.F N n = some (icdfT n) := by
 unfold Rc.ticdf.F icdfT
 simp only [br_beq]
 repeat' split
 all_goals rfl
end Go.Pl
/-
 Layer 8: how loud the numbers are, and which one is gnear.
 Conditions: none.
-/
namespace Go.Pl
open Go.Eng Go.Proofs
set_option maxRecDepth 100000
def gzT : List Int := [1,1,1,2,2,3,3,4,5,6,7,8,10,12,14,17,21,25,30,37,44,54,65,78,95,114,138,167,202,244,295,356,431,520,629,760,919,1111,1342,1623,1961,2370,2865,3463,4186,5059,6115,7391,8933,10798,13051,15775,19066,23045,27855,33667,40693,49185,59449,71856,86851,104975,126882,153360]
def gz (i : Int) : Int := gzT.getD i.toNat 0
theorem gexp2_all (N : Nat) : (List.range 64).map (fun (i : Nat) => Rc.exp2.F (N + 1000) (70 * (i : Int))) = gzT.map some := by kernel_rfl
theorem rgexp2_all (N : Nat) : (List.range 64).map (fun (i : Nat) => Rc.rexp2.F (N + 1000) (70 * (i : Int))) = gzT.map some := by kernel_rfl
theorem gz_bnd : ∀ i : Fin 64,0 <= gzT.getD i.val 0 /\ gzT.getD i.val 0 <= 153360 := by decide +kernel
theorem gof_all {f : Nat -> Option Int} (h : (List.range 64).map f = gzT.map some) {i : Nat} (hi : i <= 63) : f i = some (gzT.getD i 0) := by
 have e := congrArg (fun l => l[i]?) h
 simp only [List.getElem?_map] at e
 have hl : gzT.length = 64 := by decide +kernel
 rw [List.getElem?_range (by omega),List.getElem?_eq_getElem (by omega)] at e
 simp only [Option.map_some,Option.some.injEq] at e
 rw [e,List.getD_eq_getElem?_getD,List.getElem?_eq_getElem (by omega)]
 rfl
theorem gz_range {a : Int} (h0 : 0 <= a) (h1 : a <= 63) : 0 <= gz a /\ gz a <= 153360 := gz_bnd ⟨a.toNat,by omega⟩
section
variable {N : Nat}
theorem gloud_F (hN : 1000 <= N) (v : Int) : Rc.gloud.F N v = some (gz (c63 v)) := by
 obtain ⟨k,rfl⟩ : ∃ k,N = k + 1000 := ⟨N - 1000,by omega⟩
 have hc := c63_range v
 have h := gof_all (gexp2_all k) (i:=(c63 v).toNat) (by omega)
 rw [show ((c63 v).toNat : Int) = c63 v by omega] at h
 unfold Rc.gloud.F
 rw [gclamp_F,obind_of,i64 (by omega) (by omega),h,obind_of]
 rfl
theorem rloud_F (hN : 1000 <= N) (v : Int) : Rc.rloud.F N v = some (gz (c63 v)) := by
 obtain ⟨k,rfl⟩ : ∃ k,N = k + 1000 := ⟨N - 1000,by omega⟩
 have hc := c63_range v
 have h := gof_all (rgexp2_all k) (i:=(c63 v).toNat) (by omega)
 rw [show ((c63 v).toNat : Int) = c63 v by omega] at h
 unfold Rc.rloud.F
 rw [rclamp63,obind_of,i64 (by omega) (by omega),h,obind_of]
 rfl
end
section
variable {N : Nat}
end
end Go.Pl
/-
 Layer 8: what is read, by both.
 Conditions: none.
-/
namespace Go.Pl
open Go.Eng Go.Proofs
theorem pair0 (a b : Int) : ([a] ++ [b]).getD (Int.toNat 0) 0 = a := rfl
theorem pair1 (a b : Int) : ([a] ++ [b]).getD (Int.toNat 1) 0 = b := rfl
theorem len1 : (icdfT 1).length = 8 := rfl
theorem len2 : (icdfT 2).length = 17 := rfl
theorem len6 : (icdfT 6).length = 8 := rfl
theorem g1 : GoodT (icdfT 1) := icdf_good (by omega) (by omega)
theorem g2 : GoodT (icdfT 2) := icdf_good (by omega) (by omega)
theorem g6 : GoodT (icdfT 6) := icdf_good (by omega) (by omega)
section
variable {N : Nat} {b : List Int} {back window waiting count : Int} {bad : Bool}
theorem gsymbol_F (hb : Bytes b) (hl : b.length < 140737488351233) {q : Q} (h : q.Ok) {k : Int} (g : GoodT (icdfT k)) (hc0 : 0 <= count) (hc1 : count < 1099511627776) (hN : 300 <= N) :
  Rc.gsymbol.F N k q.rng q.val q.last (fr b q.m) back window waiting count bad b =
   some ((q.sk (icdfT k) : Int),(q.sy b (icdfT k)).rng,(q.sy b (icdfT k)).val,(q.sy b (icdfT k)).last,fr b (q.sy b (icdfT k)).m,ct count q (q.sy b (icdfT k))) := by
 unfold Rc.gsymbol.F
 simp only [chkI_same,chkB_same,chkL_same]
 rw [ticdf_F,obind_of,(symbol_F hb hl h (icdfT k) hc0 hc1 hN).1 g,obind_of]
theorem greadfirst_F (hb : Bytes b) (hl : b.length < 140737488351233) {q : Q} (h : q.Ok) (hc0 : 0 <= count) (hc1 : count < 1099511627000) (hN : 300 <= N) :
  Rc.greadfirst.F N q.rng q.val q.last (fr b q.m) back window waiting count bad b =
   some (8 * (q.sk (icdfT 1) : Int) + (q.sy b (icdfT 1)).ch 8,((q.sy b (icdfT 1)).un b 8).rng,((q.sy b (icdfT 1)).un b 8).val,((q.sy b (icdfT 1)).un b 8).last,fr b ((q.sy b (icdfT 1)).un b 8).m,back,window,waiting,
    ct (ct count q (q.sy b (icdfT 1))) (q.sy b (icdfT 1)) ((q.sy b (icdfT 1)).un b 8),bad) := by
 unfold Rc.greadfirst.F
 simp only [chkI_same,chkB_same,chkL_same,pair0,pair1]
 have hm := ct_range (b:=b) (Q.sy_m b q (icdfT 1)) count
 have hs := (Q.sk_spec h g1).1
 rw [len1] at hs
 have hq := Q.sy_ok hb h g1
 obtain ⟨e0,e1⟩ := Q.ch_range hq (ft:=8) (by omega) (by omega)
 rw [gsymbol_F hb hl h g1 hc0 (by omega) hN,obind_of]
 simp only
 rw [uint_small hb hl hq (by omega) (by omega) (by omega) (by omega) hN,obind_of]
 simp only
 rw [i64 (x:=8 * (q.sk (icdfT 1) : Int)) (by omega) (by omega),i64 (by omega) (by omega)]
theorem greadnext_F (hb : Bytes b) (hl : b.length < 140737488351233) {q : Q} (h : q.Ok) (was : Int) (hc0 : 0 <= count) (hc1 : count < 1099511627776) (hN : 300 <= N) :
  Rc.greadnext.F N was q.rng q.val q.last (fr b q.m) back window waiting count bad b =
   some (c63 (c63 was + (q.sk (icdfT 2) : Int) - 8),(q.sy b (icdfT 2)).rng,(q.sy b (icdfT 2)).val,(q.sy b (icdfT 2)).last,fr b (q.sy b (icdfT 2)).m,ct count q (q.sy b (icdfT 2))) := by
 unfold Rc.greadnext.F
 simp only [chkI_same,chkB_same,chkL_same]
 have hs := (Q.sk_spec h g2).1
 rw [len2] at hs
 have hc := c63_range was
 rw [gclamp_F,obind_of,gsymbol_F hb hl h g2 hc0 hc1 hN,obind_of]
 simp only
 rw [i64 (x:=c63 was + (q.sk (icdfT 2) : Int)) (by omega) (by omega),i64 (x:=c63 was + (q.sk (icdfT 2) : Int) - 8) (by omega) (by omega),gclamp_F,obind_of]
end
end Go.Pl
