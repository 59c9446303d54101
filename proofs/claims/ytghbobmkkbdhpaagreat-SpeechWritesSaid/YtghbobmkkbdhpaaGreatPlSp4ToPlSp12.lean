/-
 Layer 14: the reference reads a frame alike; SpeechReads.
 Conditions: none.
-/
import Derived.Test.YtghbobmkkbdhpaaGreatPlPuToPlSp3
import Derived.Test.YtghbobmkkbdhpaaGreatPlKnown14
import Derived.Test.YtghbobmkkbdhpaaGreatPlGaToPlGa2
set_option linter.unusedVariables false
set_option linter.unusedSimpArgs false
namespace Go.Pl
open Go.Eng Go.Proofs
section
variable {N : Nat} {b : List Int}
theorem rvoiced_F (hb : Bytes b) (hl : b.length < 140737488351233) {rate ms : Int} (hm : May14 rate ms) (was : Int) {s : RS} {k : Nat} (h : s.Ok k) (hk : k <= 100) (hN : 30000 <= N) (eq : Int) :
  ∃ eq',Rc.rvoiced.F N rate ms was s.q.rng s.q.val s.q.last (fr b s.q.m) (fr b s.w.k) s.w.win (s.w.wai : Int) s.ct eq s.bad b =
   some ((fr14 b rate ms was s).kind,(fr14 b rate ms was s).one,(fr14 b rate ms was s).btw,(fr14 b rate ms was s).s.q.rng,(fr14 b rate ms was s).s.q.val,(fr14 b rate ms was s).s.q.last,fr b (fr14 b rate ms was s).s.q.m,fr b (fr14 b rate ms was s).s.w.k,(fr14 b rate ms was s).s.w.win,((fr14 b rate ms was s).s.w.wai : Int),(fr14 b rate ms was s).s.ct,eq',(fr14 b rate ms was s).fresh,(fr14 b rate ms was s).s.bad,(fr14 b rate ms was s).two,(fr14 b rate ms was s).gains,(fr14 b rate ms was s).ltps.map (fun r => r.headD 0),(fr14 b rate ms was s).ltps.map (fun r => r.tail.headD 0),(fr14 b rate ms was s).pulses) := by
 obtain ⟨m1,m2,m3,m4,m5,m6,m7,m8⟩ := may_facts hm
 obtain ⟨f0,f1,z0,l0,l1,l2,l3⟩ := lw14_of hm.1
 have ho := ord14_le rate
 obtain ⟨t0,t1⟩ := RS.ct_rg h (by omega)
 have h1 := RS.bit_ok hb h
 obtain ⟨t10,t11⟩ := RS.ct_rg h1 (by omega)
 have h2 := RS.sy_ok hb h1 g0
 obtain ⟨t20,t21⟩ := RS.ct_rg h2 (by omega)
 have h3 := RS.sy_ok hb h2 g3
 obtain ⟨a1,a2,a3,a4,a5⟩ := two14_facts hb (ord14 rate) (k + 3) _ [] h3 (fun x hx => by simp at hx)
 obtain ⟨h5,u0,u1⟩ := RS.un_ok hb a1 (ft:=5) (by omega) (by omega)
 obtain ⟨c1,c2,c3,c4,c5⟩ := gns14_facts hb (cnt14 ms) _ (s.w.val b 1 == 1) _ was [] h5 (fun x hx => by simp at hx)
 obtain ⟨eq1,q0⟩ := (rsymbol_F (N:=N) (b:=b) (back:=fr b (s.w.next b 1).k) (wait:=(s.w.next b 1).win) (waiting:=((s.w.next b 1).wai : Int)) (eq:=eq) (bad:=s.bad) hb hl h1.q (icdfT 0) t10 (by omega) (by omega)).1 g0
 rw [ct_of (Q.sy_m b _ (icdfT 0)).1] at q0
 obtain ⟨eq2,q3⟩ := (rsymbol_F (N:=N) (b:=b) (back:=fr b (s.w.next b 1).k) (wait:=(s.w.next b 1).win) (waiting:=((s.w.next b 1).wai : Int)) (eq:=eq1) (bad:=s.bad) hb hl h2.q (icdfT 3) t20 (by omega) (by omega)).1 g3
 rw [ct_of (Q.sy_m b _ (icdfT 3)).1] at q3
 obtain ⟨eq3,hT⟩ := voiced_two (N:=N) (rate:=rate) (kind:=((s.bit b).q.sk (icdfT 0) : Int)) (one:=(((s.bit b).sy b (icdfT 0)).q.sk (icdfT 3) : Int)) (btw:=0) (fresh:=s.w.val b 1 == 1) hb (fun _ => hl) hN N (ord14 rate) 0 (k + 3) _ [] eq2 h3 (by omega) (by omega) rfl (by omega)
 obtain ⟨eq4,hU⟩ := (RS.un_F (N:=N) hb hl a1 (by omega) (ft:=5) (by omega) (by omega) (by omega)).2 eq3
 rw [a2,a3] at hU
 obtain ⟨eq5,hG⟩ := voiced_gains (N:=N) (ms:=ms) (cnt:=cnt14 ms) (kind:=((s.bit b).q.sk (icdfT 0) : Int)) (one:=(((s.bit b).sy b (icdfT 0)).q.sk (icdfT 3) : Int)) (btw:=(two14 b (ord14 rate) (((s.bit b).sy b (icdfT 0)).sy b (icdfT 3)) []).1.uv b 5) (fresh:=s.w.val b 1 == 1) (two:=(two14 b (ord14 rate) (((s.bit b).sy b (icdfT 0)).sy b (icdfT 3)) []).2) hb (fun _ => hl) hN m2 N (cnt14 ms) 0 (k + 3 + ord14 rate + 1) _ was [] eq4 h5 (by omega) (by omega) (by omega) rfl (by omega)
 rw [show (decide (0 = 0) && (s.w.val b 1 == 1)) = (s.w.val b 1 == 1) by simp] at hG
 have hC : s.ct + 1 = (s.bit b).ct := by simp only [RS.ct,RS.bit]; omega
 by_cases hk2 : ((s.bit b).q.sk (icdfT 0) : Int) = 2
 ·obtain ⟨eq6,hL⟩ := voiced_ltps (N:=N) (rate:=rate) (cnt:=cnt14 ms) (ms:=ms) (kind:=((s.bit b).q.sk (icdfT 0) : Int)) (one:=(((s.bit b).sy b (icdfT 0)).q.sk (icdfT 3) : Int)) (btw:=(two14 b (ord14 rate) (((s.bit b).sy b (icdfT 0)).sy b (icdfT 3)) []).1.uv b 5) (fresh:=s.w.val b 1 == 1) (two:=(two14 b (ord14 rate) (((s.bit b).sy b (icdfT 0)).sy b (icdfT 3)) []).2) (gains:=(gns14 b (cnt14 ms) (s.w.val b 1 == 1) ((two14 b (ord14 rate) (((s.bit b).sy b (icdfT 0)).sy b (icdfT 3)) []).1.un b 5) was []).2) hb (fun _ => hl) hN hm.1 m2 N (cnt14 ms) 0 _ _ [] eq5 c1 (by omega) (by omega) (by omega) rfl (by omega)
  rw [c2,c3] at hL
  obtain ⟨d1,d2,d3⟩ := ltp14_facts (lo:=lo8 rate) hb f0 f1 (cnt14 ms) _ _ [] c1 (fun x hx => by simp at hx)
  obtain ⟨eq7,hP⟩ := rpulses_S (N:=N) hb hl d1 (by omega) m6 m7 hN eq6
  refine ⟨eq7,?_⟩
  unfold Rc.rvoiced.F
  simp only [br_beq,br_dec,chkL_same]
  rw [rbits_F hb hl h.w 1 t0 (by omega) (by omega),obind_of,if_pos (by omega),icdf_F,obind_of]
  simp only
  rw [show (1 : Int).toNat = 1 from rfl,hC]
  refine obind_step q0 ?_
  simp only
  rw [icdf_F,obind_of]
  refine obind_step q3 ?_
  simp only
  refine obind_step hT ?_
  simp only
  refine obind_step hU ?_
  simp only
  refine obind_step hG ?_
  simp only
  unfold fr14
  simp only
  rw [if_pos hk2,rlags_F,obind_of]
  simp only
  refine obind_step hL ?_
  simp only
  rw [if_pos (by omega),m8,m5,i64 (x:=16 * (blk14 rate ms : Int)) (by omega) (by omega)]
  refine obind_step hP ?_
  simp only [if_pos hk2,if_neg (show ¬ ((s.bit b).q.sk (icdfT 0) : Int) = 0 by omega)]
 ·by_cases hk0 : ((s.bit b).q.sk (icdfT 0) : Int) = 0
  ·refine ⟨eq5,?_⟩
   unfold Rc.rvoiced.F
   simp only [br_beq,br_dec,chkL_same]
   rw [rbits_F hb hl h.w 1 t0 (by omega) (by omega),obind_of,if_pos (by omega),icdf_F,obind_of]
   simp only
   rw [show (1 : Int).toNat = 1 from rfl,hC]
   refine obind_step q0 ?_
   simp only
   rw [icdf_F,obind_of]
   refine obind_step q3 ?_
   simp only
   refine obind_step hT ?_
   simp only
   refine obind_step hU ?_
   simp only
   refine obind_step hG ?_
   simp only
   unfold fr14
   simp only
   rw [if_neg hk2,if_neg (by omega)]
   simp only [if_neg hk2,if_pos hk0]
   rw [<- c2,<- c3]
   rfl
  ·obtain ⟨eq7,hP⟩ := rpulses_S (N:=N) hb hl c1 (by omega) m6 m7 hN eq5
   rw [c2,c3] at hP
   refine ⟨eq7,?_⟩
   unfold Rc.rvoiced.F
   simp only [br_beq,br_dec,chkL_same]
   rw [rbits_F hb hl h.w 1 t0 (by omega) (by omega),obind_of,if_pos (by omega),icdf_F,obind_of]
   simp only
   rw [show (1 : Int).toNat = 1 from rfl,hC]
   refine obind_step q0 ?_
   simp only
   rw [icdf_F,obind_of]
   refine obind_step q3 ?_
   simp only
   refine obind_step hT ?_
   simp only
   refine obind_step hU ?_
   simp only
   refine obind_step hG ?_
   simp only
   unfold fr14
   simp only
   rw [if_neg hk2,if_pos (by omega),m8,m5,i64 (x:=16 * (blk14 rate ms : Int)) (by omega) (by omega)]
   refine obind_step hP ?_
   simp only [if_neg hk2,if_neg hk0]
   rfl
end
def RS.new (b : List Int) : RS := ⟨Q.new b,W.new,1,false⟩
theorem RS.new_ok {b : List Int} (hb : Bytes b) : (RS.new b).Ok 1 := ⟨Q.new_ok hb,W.new_ok,by show (0 : Int) <= 1; decide,by show (1 : Int) <= 32 * ((1 : Nat) : Int); decide,by have := (Q.new_rng b).2; simp only [RS.new]; omega⟩
theorem RS.new_ct (b : List Int) : (RS.new b).ct = cnew b := by rw [cnew_eq]; rfl
end Go.Pl
/-
 Layer 8: louder numbers are louder; the nearest number is no farther than others.
 Conditions: none.
-/
namespace Go.Pl
open Go.Eng Go.Proofs
section
variable {N : Nat}
end
end Go.Pl
/-
 Layer 8: what is written is read.
 Conditions: none.
-/
namespace Go.Pl
open Go.Eng Go.Proofs
theorem st_range {x w : Int} (h0 : 0 <= w) (h1 : w <= 63) : 0 <= w + c8 (c63 x - w) /\ w + c8 (c63 x - w) <= 63 := by
 have := c63_range x
 unfold c8
 split
 ·omega
 ·split <;> omega
theorem E.sy_same8 (e : E) (s : Nat) (t : List Int) : (e.sy s t).r = e.r /\ (e.sy s t).raw = e.raw /\ e.k <= (e.sy s t).k /\ (e.sy s t).k <= e.k + 4 := E.tk_same e _ _ _
theorem E.sy_ok8 {e : E} (h : e.Ok) {t : List Int} (g : GoodT t) {s : Nat} (hs : s < t.length) : (e.sy s t).Ok := E.tk_ok h (sym_place g hs)
theorem E.bits_of {e e' : E} (h1 : e'.r = e.r) (h2 : e'.raw = e.raw) : e'.bits = e.bits := by unfold E.bits; rw [h1,h2]
def ef (g : Int) : E := (E.new.sy (g / 8).toNat (icdfT 1)).un (g % 8) 8
section
variable {N : Nat}
theorem gwritenext_F {e : E} (h : e.Ok) (hl : e.Low) (hN : 30000 <= N) (g : Int) {w : Int} (w0 : 0 <= w) (w1 : w <= 63) {raw : List Int} :
  Rc.gwritenext.F N g w e.val e.rng e.r e.count e.told raw =
   some (w + c8 (c63 g - w),0,(e.sy (c8 (c63 g - w) + 8).toNat (icdfT 2)).val,(e.sy (c8 (c63 g - w) + 8).toNat (icdfT 2)).rng,(e.r : Int),(e.sy (c8 (c63 g - w) + 8).toNat (icdfT 2)).count,raw,(e.sy (c8 (c63 g - w) + 8).toNat (icdfT 2)).told) := by
 unfold Rc.gwritenext.F
 have hc := c63_range g
 have hd := c8_range (c63 g - w)
 have hs := st_range (x:=g) w0 w1
 rw [gclamp_F,obind_of,gclamp_F,obind_of,c63_of w0 w1,i64 (x:=c63 g - w) (by omega) (by omega),i64 (x:=c63 g - w + 8) (by omega) (by omega)]
 have hif : (if (16 : Int) < if (0 : Int) > c63 g - w + 8 then (0 : Int) else c63 g - w + 8 then (16 : Int) else if (0 : Int) > c63 g - w + 8 then (0 : Int) else c63 g - w + 8) = c8 (c63 g - w) + 8 := by
  unfold c8
  split <;> (try split) <;> (try split) <;> (try split) <;> omega
 rw [hif,i64 (x:=w + (c8 (c63 g - w) + 8)) (by omega) (by omega),show w + (c8 (c63 g - w) + 8) - 8 = w + c8 (c63 g - w) by omega,i64 (x:=w + c8 (c63 g - w)) (by omega) (by omega),gclamp_F,obind_of,ticdf_F,obind_of,(esymbol_F h (hl.lim hN) (c8 (c63 g - w) + 8) (icdfT 2)).1 ⟨g2,by omega,by rw [len2]; omega⟩,obind_of,c63_of hs.1 hs.2]
end
section
variable {N : Nat}
def elt (e : E) (rate lag taps : Int) : E := (e.un (lag - lo8 rate) (hi8 rate - lo8 rate + 1)).sy taps.toNat (icdfT 6)
def mayL (rate lag taps : Int) : Prop := hi8 rate > 0 /\ lo8 rate <= lag /\ lag <= hi8 rate /\ 0 <= taps /\ taps <= 7
theorem un_tell8 {e : E} (h : e.Ok) {v ft : Int} (v0 : 0 <= v) (v1 : v < ft) (h1 : ft <= 300) : (e.un v ft).Ok /\ e.k <= (e.un v ft).k /\ (e.un v ft).k <= e.k + 4 /\ (e.un v ft).r <= e.r + 24 /\ (e.un v ft).tell <= e.tell + 55 := by
 refine ⟨E.un_ok h v0 v1 (by omega),?_,?_,?_,(E.un_tell h v0 v1 (by omega)).2⟩
 all_goals
  unfold E.un
  split
  ·omega
  ·split
   ·have := E.tk_same e v (v + 1) ft
    omega
   ·have := E.tk_same e (v / 2 ^ ub ft) (v / 2 ^ ub ft + 1) (uf ft)
    have := ub_range (ft:=ft) (by omega) (by omega)
    simp only [E.bt]
    omega
end
end Go.Pl
/-
 Layer 9: pulses are written by the book, and read back.
 Conditions: none.
-/
namespace Go.Pl
open Go.Eng Go.Proofs
section
variable {N : Nat}
theorem rsize_F (v : Int) (h0 : -100 <= v) (h1 : v <= 100) : Rc.rsize9.F N v = some (ab v) := by
 unfold Rc.rsize9.F ab
 rw [i64 (by omega) (by omega)]
 simp only [br_dec]
 split <;> simp
theorem rgood8 {l e : List Int} (hl : l.length <= 480) {K : Nat} (hK : K <= l.length) {i : Nat} (hi : K = i + 16) (s2 : Bool) : ∀ (nn j : Nat) (s : Int),i <= j -> j <= K -> K - j < nn -> 0 <= s -> s <= 100 * (j : Int) ->
  (Rc.rgood9.loop8 N nn e i l s j s2 = some (.inr (.inr false)) /\ s + cnt ((l.take K).drop j) > 16) \/ (Rc.rgood9.loop8 N nn e i l s j s2 = some (.inl (s + cnt ((l.take K).drop j),s2)))
 | 0,j,s,_,_,h,_,_ => by omega
 | nn + 1,j,s,hij,hj,h,s0,s1 => by
  unfold Rc.rgood9.loop8
  simp only [br_dec,chkI_same,chkL_same]
  rw [i64 (x:=(i : Int) + 16) (by omega) (by omega)]
  by_cases c : j < K
  ·have hg : (l.take K).getD j 0 = l.getD j 0 := by
    rw [List.getD_eq_getElem?_getD,List.getD_eq_getElem?_getD,List.getElem?_take,if_pos c]
   have hcd : cnt ((l.take K).drop j) = ab (c32 (l.getD j 0)) + cnt ((l.take K).drop (j + 1)) := by
    rw [cnt_drop (by rw [List.length_take]; omega),hg]
   have hn := (cnt_range ((l.take K).drop (j + 1))).1
   rw [if_pos (by omega),chk_pos (by omega),chk_pos (by omega),chk_pos (by omega),Int.toNat_natCast,hcd]
   generalize l.getD j 0 = v
   by_cases c1 : v < -16
   ·rw [if_pos c1]
    exact Or.inl ⟨rfl,by unfold ab c32; split <;> split <;> (try split) <;> omega⟩
   rw [if_neg c1]
   by_cases c2 : v > 16
   ·rw [if_pos c2]
    exact Or.inl ⟨rfl,by unfold ab c32; split <;> split <;> (try split) <;> omega⟩
   rw [if_neg c2,rsize_F v (by omega) (by omega),obind_of]
   have hc : c32 v = v := by unfold c32; rw [if_neg (by omega),if_neg (by omega)]
   rw [hc]
   have ha : 0 <= ab v /\ ab v <= 16 := by unfold ab; split <;> omega
   rw [i64 (x:=s + ab v) (by omega) (by omega),i64 (x:=(j : Int) + 1) (by omega) (by omega)]
   have ih := rgood8 (e:=e) hl hK hi s2 nn (j + 1) (s + ab v) (by omega) (by omega) (by omega) (by omega) (by omega)
   rw [show ((j + 1 : Nat) : Int) = (j : Int) + 1 by omega] at ih
   rw [show s + (ab v + cnt ((l.take K).drop (j + 1))) = s + ab v + cnt ((l.take K).drop (j + 1)) by omega]
   exact ih
  ·rw [if_neg (by omega),List.drop_eq_nil_of_le (by rw [List.length_take]; omega)]
   exact Or.inr (by simp [cnt,tot])
theorem rgood4 {l e : List Int} (hl : l.length <= 480) (hN : 30000 <= N) (s : Bool) : ∀ (nn m k : Nat),k + 16 * m = l.length -> m < nn ->
  (okB m (l.drop k) = true -> Rc.rgood9.loop4 N nn e l k s = some (.inl s)) /\ (okB m (l.drop k) = false -> Rc.rgood9.loop4 N nn e l k s = some (.inr false))
 | 0,m,k,_,h => by omega
 | nn + 1,0,k,hk,h => by
  unfold Rc.rgood9.loop4
  simp only [br_dec]
  rw [if_neg (by omega)]
  exact ⟨fun _ => rfl,fun h => by simp [okB] at h⟩
 | nn + 1,m + 1,k,hk,h => by
  have ih := rgood4 (e:=e) hl hN s nn m (k + 16) (by omega) (by omega)
  rw [show ((k + 16 : Nat) : Int) = (k : Int) + 16 by omega] at ih
  have hok : okB (m + 1) (l.drop k) = (decide (cnt ((l.drop k).take 16) <= 16) && okB m (l.drop (k + 16))) := by simp only [okB,List.drop_drop]
  have h8 := rgood8 (N:=N) (l:=l) (e:=e) hl (K:=k + 16) (by omega) rfl s N k 0 (by omega) (by omega) (by omega) (by omega) (by omega)
  have ht : (l.take (k + 16)).drop k = (l.drop k).take 16 := by rw [List.drop_take]; congr 1; omega
  rw [ht,Int.zero_add] at h8
  unfold Rc.rgood9.loop4
  simp only [br_dec,chkL_same]
  rw [if_pos (by omega),i64 (x:=(k : Int) + 16) (by omega) (by omega),hok]
  rcases h8 with ⟨h8,hc⟩ | h8
  ·rw [h8,decide_eq_false (show ¬ cnt ((l.drop k).take 16) <= 16 by omega)]
   exact ⟨fun h => by simp at h,fun _ => rfl⟩
  ·rw [h8,osum_inl]
   simp only
   by_cases c : cnt ((l.drop k).take 16) <= 16
   ·rw [if_neg (show ¬ cnt ((l.drop k).take 16) > 16 by omega),decide_eq_true c]
    simpa using ih
   ·rw [if_pos (show cnt ((l.drop k).take 16) > 16 by omega),decide_eq_false c]
    exact ⟨fun h => by simp at h,fun _ => rfl⟩
theorem rgood9_F (l : List Int) (hN : 30000 <= N) : Rc.rgood9.F N l = some (goodB l) := by
 unfold Rc.rgood9.F goodB mayB
 simp only [br_dec,br_bne]
 by_cases c1 : l.length < 16
 ·rw [if_pos (by omega),decide_eq_false (show ¬ 16 <= l.length by omega)]; rfl
 rw [if_neg (by omega),decide_eq_true (show 16 <= l.length by omega)]
 by_cases c2 : l.length > 480
 ·rw [if_pos (by omega),decide_eq_false (show ¬ l.length <= 480 by omega)]; rfl
 rw [if_neg (by omega),decide_eq_true (show l.length <= 480 by omega),Int.tmod_eq_emod_of_nonneg (by omega)]
 by_cases c3 : l.length % 16 = 0
 ·rw [if_pos (by omega),decide_eq_true c3]
  have h := rgood4 (N:=N) (l:=l) (e:=l) (by omega) hN false N (l.length / 16) 0 (by omega) (by omega)
  rw [show ((0 : Nat) : Int) = 0 from rfl,List.drop_zero] at h
  cases ho : okB (l.length / 16) l with
  | true => rw [h.1 ho]; rfl
  | false => rw [h.2 ho]; rfl
 ·rw [if_neg (by omega),decide_eq_false c3]; rfl
end
def spE : Nat -> List Int -> E -> E
 | 0,_,e => e
 | d + 1,l,e => spE d (l.drop (2 ^ d)) (spE d (l.take (2 ^ d)) (e.un (cnt (l.take (2 ^ d))) (cnt l + 1)))
def sgE : List Int -> E -> E
 | [],e => e
 | v :: r,e => sgE r (if v = 0 then e else e.bt (if v < 0 then 1 else 0) 1)
def wrB (l : List Int) (e : E) : E := sgE l (spE 4 l (e.sy (cnt l).toNat (icdfT 5)))
def wrE : Nat -> List Int -> E -> E
 | 0,_,e => e
 | m + 1,l,e => wrE m (l.drop 16) (wrB (l.take 16) e)
theorem un_same {e : E} {v ft : Int} (h : ft <= 256) : (e.un v ft).r = e.r /\ e.k <= (e.un v ft).k /\ (e.un v ft).k <= e.k + 4 := by
 unfold E.un
 split
 ·exact ⟨rfl,Nat.le_refl _,by omega⟩
 ·have := E.tk_same e v (v + 1) ft
  exact ⟨this.1,this.2.2.1,this.2.2.2⟩
theorem cnt_half {l : List Int} (n : Nat) : cnt l = cnt (l.take n) + cnt (l.drop n) /\ 0 <= cnt (l.take n) /\ 0 <= cnt (l.drop n) := by
 refine ⟨?_,(cnt_range _).1,(cnt_range _).1⟩
 rw [<- cnt_app,List.take_append_drop]
theorem spE_facts : ∀ (d : Nat) (l : List Int) (e : E),e.Ok -> cnt l <= 16 -> (spE d l e).Ok /\ e.k <= (spE d l e).k /\ (spE d l e).k + 4 <= e.k + 4 * 2 ^ d /\ (spE d l e).r = e.r
 | 0,l,e,h,hc => ⟨h,Nat.le_refl _,by simp [spE],rfl⟩
 | d + 1,l,e,h,hc => by
  obtain ⟨c1,c2,c3⟩ := cnt_half (l:=l) (2 ^ d)
  have hu := E.un_ok h (v:=cnt (l.take (2 ^ d))) (ft:=cnt l + 1) c2 (by omega) (by omega)
  have us := un_same (e:=e) (v:=cnt (l.take (2 ^ d))) (ft:=cnt l + 1) (by omega)
  obtain ⟨a1,a2,a3,a4⟩ := spE_facts d (l.take (2 ^ d)) _ hu (by omega)
  obtain ⟨b1,b2,b3,b4⟩ := spE_facts d (l.drop (2 ^ d)) _ a1 (by omega)
  have hp : 2 ^ (d + 1) = 2 * 2 ^ d := by rw [Nat.pow_succ,Nat.mul_comm]
  exact ⟨b1,by simp only [spE]; omega,by simp only [spE]; omega,by simp only [spE]; omega⟩
theorem sgE_facts : ∀ (l : List Int) (e : E),e.Ok -> (sgE l e).Ok /\ (sgE l e).k = e.k /\ e.r <= (sgE l e).r /\ (sgE l e).r <= e.r + l.length
 | [],e,h => ⟨h,rfl,Nat.le_refl _,by simp [sgE]⟩
 | v :: r,e,h => by
  simp only [sgE]
  split
  ·obtain ⟨a1,a2,a3,a4⟩ := sgE_facts r e h
   exact ⟨a1,a2,a3,by simp only [List.length_cons]; omega⟩
  ·obtain ⟨a1,a2,a3,a4⟩ := sgE_facts r _ (E.bt_ok h (v:=if v < 0 then 1 else 0) (n:=1) (by split <;> omega) (by split <;> omega))
   have e1 : (e.bt (if v < 0 then 1 else 0) 1).k = e.k := rfl
   have e2 : (e.bt (if v < 0 then 1 else 0) 1).r = e.r + 1 := rfl
   exact ⟨a1,by omega,by omega,by simp only [List.length_cons]; omega⟩
theorem sy5_facts {e : E} (h : e.Ok) {s : Nat} (hs : s <= 16) : (e.sy s (icdfT 5)).Ok /\ e.k <= (e.sy s (icdfT 5)).k /\ (e.sy s (icdfT 5)).k <= e.k + 4 /\ (e.sy s (icdfT 5)).r = e.r := by
 have p := sym_place g5 (s:=s) (by rw [len5]; omega)
 have := E.tk_same e (symL (icdfT 5) s) (256 - (icdfT 5).getD s 0) 256
 exact ⟨E.tk_ok h p,this.2.2.1,this.2.2.2,this.1⟩
theorem wrB_facts {l : List Int} {e : E} (h : e.Ok) (hl : l.length = 16) (hc : cnt l <= 16) : (wrB l e).Ok /\ e.k <= (wrB l e).k /\ (wrB l e).k <= e.k + 68 /\ e.r <= (wrB l e).r /\ (wrB l e).r <= e.r + 16 := by
 obtain ⟨s1,s2,s3,s4⟩ := sy5_facts h (s:=(cnt l).toNat) (by omega)
 obtain ⟨a1,a2,a3,a4⟩ := spE_facts 4 l _ s1 hc
 obtain ⟨g1,g2,g3,g4⟩ := sgE_facts l _ a1
 unfold wrB
 exact ⟨g1,by omega,by omega,by omega,by omega⟩
theorem okB_head {m : Nat} {l : List Int} (h : okB (m + 1) l = true) : cnt (l.take 16) <= 16 /\ okB m (l.drop 16) = true := by
 simp only [okB,Bool.and_eq_true,decide_eq_true_eq] at h
 exact h
theorem wrE_facts : ∀ (m : Nat) (l : List Int) (e : E),e.Ok -> l.length = 16 * m -> okB m l = true -> (wrE m l e).Ok /\ e.k <= (wrE m l e).k /\ (wrE m l e).k <= e.k + 68 * m /\ e.r <= (wrE m l e).r /\ (wrE m l e).r <= e.r + 16 * m
 | 0,l,e,h,_,_ => ⟨h,Nat.le_refl _,by simp [wrE],Nat.le_refl _,by simp [wrE]⟩
 | m + 1,l,e,h,hl,ho => by
  obtain ⟨o1,o2⟩ := okB_head ho
  obtain ⟨b1,b2,b3,b4,b5⟩ := wrB_facts h (l:=l.take 16) (by rw [List.length_take]; omega) o1
  obtain ⟨i1,i2,i3,i4,i5⟩ := wrE_facts m (l.drop 16) _ b1 (by rw [List.length_drop]; omega) o2
  exact ⟨i1,by simp only [wrE]; omega,by simp only [wrE]; omega,by simp only [wrE]; omega,by simp only [wrE]; omega⟩
section
variable {N : Nat}
theorem spread9_G (hN : 30000 <= N) {M : Nat} (hM : True -> M <= 10000) : ∀ (nn d : Nat) (l : List Int) (e : E),e.Ok -> e.r <= M -> e.k + 4 * 2 ^ d <= M -> l.length = 2 ^ d -> d <= 4 -> cnt l <= 16 -> d < nn ->
  Rc.spread9.G N nn e.val e.rng e.r e.count l e.told e.bits = some (0,(spE d l e).val,(spE d l e).rng,((spE d l e).r : Int),(spE d l e).count,(spE d l e).told,(spE d l e).bits)
 | 0,d,l,e,_,_,_,_,_,_,h => by omega
 | nn + 1,0,l,e,h,hr,hk,hl,hd,hc,hn => by
  rw [Nat.pow_zero] at hl
  unfold Rc.spread9.G
  simp only [br_beq]
  rw [if_pos (by omega)]
  rfl
 | nn + 1,d + 1,l,e,h,hr,hk,hl,hd,hc,hn => by
  have hM' := hM trivial
  obtain ⟨c1,c2,c3⟩ := cnt_half (l:=l) (2 ^ d)
  have hp : 2 ^ (d + 1) = 2 * 2 ^ d := by rw [Nat.pow_succ,Nat.mul_comm]
  have hp1 : 1 <= 2 ^ d := Nat.one_le_two_pow
  have hp2 := p2_16 hd
  have low : e.Low := ⟨by omega,by omega⟩
  have hu := E.un_ok h (v:=cnt (l.take (2 ^ d))) (ft:=cnt l + 1) c2 (by omega) (by omega)
  have us := un_same (e:=e) (v:=cnt (l.take (2 ^ d))) (ft:=cnt l + 1) (by omega)
  obtain ⟨a1,a2,a3,a4⟩ := spE_facts d (l.take (2 ^ d)) _ hu (by omega)
  have hH : IntKind.i64.wrap ((l.length : Int).tdiv 2) = ((2 ^ d : Nat) : Int) := by
   rw [tdiv_ediv (by omega),i64 (by omega) (by omega)]
   omega
  unfold Rc.spread9.G
  simp only [br_beq,br_bne,hH,Int.toNat_natCast,List.drop_zero,Nat.sub_zero]
  rw [if_neg (by omega),chk_pos (by omega),count9_F (by rw [List.length_take]; omega) (by rw [List.length_take]; omega),obind_of,count9_F (by omega) (by omega),obind_of,i64 (x:=cnt l + 1) (by omega) (by omega),
   euint_F h (low.lim hN) (by omega) _ _,if_pos (by omega),obind_of]
  simp only [if_true]
  have ih1 := spread9_G hN hM nn d (l.take (2 ^ d)) _ hu (by omega) (by omega) (by rw [List.length_take]; omega) (by omega) (by omega) (by omega)
  rw [ih1,obind_of]
  simp only [if_true]
  have ih2 := spread9_G hN hM nn d (l.drop (2 ^ d)) _ a1 (by omega) (by omega) (by rw [List.length_drop]; omega) (by omega) (by omega) (by omega)
  have ht : List.take (l.length - 2 ^ d) (List.drop (2 ^ d) l) = List.drop (2 ^ d) l := List.take_of_length_le (by rw [List.length_drop]; omega)
  rw [chk_pos (by omega),ht,ih2,obind_of]
  rfl
theorem signs9_loop {ev er erb ec : Int} {el et ew : List Int} (hN : 30000 <= N) {l : List Int} (hl : l.length <= 1000) : ∀ (nn k : Nat) (e : E) (s4 : Int),e.Ok -> e.k <= 10000 -> e.r + l.length <= 100000 + k -> k <= l.length -> l.length - k < nn ->
  ∃ s,Rc.signs9.loop2 N nn ev er erb ec el et ew (l.length : Int) e.val e.rng l e.told s4 k e.r e.count e.bits = some (.inl (s,((sgE (l.drop k) e).r : Int),(sgE (l.drop k) e).count,(sgE (l.drop k) e).bits))
 | 0,k,e,s4,_,_,_,_,h => by omega
 | nn + 1,k,e,s4,h,hk,hr,hkl,hn => by
  unfold Rc.signs9.loop2
  simp only [br_dec,br_beq,br_bne,chkI_same,chkL_same]
  by_cases c : k < l.length
  ·rw [if_pos (by omega),chk_pos (by omega),Int.toNat_natCast,i64 (x:=(k : Int) + 1) (by omega) (by omega),drop_cons c]
   generalize l.getD k 0 = v
   have ih := fun e' (a : E.Ok e') (b : e'.k <= 10000) (c' : e'.r + l.length <= 100000 + (k + 1)) => signs9_loop (ev:=ev) (er:=er) (erb:=erb) (ec:=ec) (el:=el) (et:=et) (ew:=ew) hN hl nn (k + 1) e' s4 a b c' (by omega) (by omega)
   rw [show ((k + 1 : Nat) : Int) = (k : Int) + 1 by omega] at ih
   have hb := fun (x : Int) => ebits_F (N:=N) h (by omega) (by omega) (by omega) x 1 (val:=e.val) (rng:=e.rng) (told:=e.told)
   by_cases c0 : v = 0
   ·rw [if_pos c0]
    simp only [sgE]
    rw [if_pos c0]
    exact ih e h hk (by omega)
   rw [if_neg c0]
   by_cases c1 : v < 0
   ·have hok := E.bt_ok h (v:=1) (n:=1) (by omega) (by omega)
    rw [if_pos c1,hb 1,if_pos (by decide),obind_of,show (1 : Int).toNat = 1 from rfl]
    simp only [if_true,sgE]
    rw [if_neg c0,if_pos c1]
    exact ih (e.bt 1 1) hok hk (by have : (e.bt 1 1).r = e.r + 1 := rfl; omega)
   ·have hok := E.bt_ok h (v:=0) (n:=1) (by omega) (by omega)
    rw [if_neg c1,hb 0,if_pos (by decide),obind_of,show (1 : Int).toNat = 1 from rfl]
    simp only [if_true,sgE]
    rw [if_neg c0,if_neg c1]
    exact ih (e.bt 0 1) hok hk (by have : (e.bt 0 1).r = e.r + 1 := rfl; omega)
  ·rw [if_neg (by omega),List.drop_eq_nil_of_le (by omega)]
   exact ⟨_,rfl⟩
theorem sgE_same : ∀ (l : List Int) (e : E),(sgE l e).val = e.val /\ (sgE l e).rng = e.rng /\ (sgE l e).told = e.told
 | [],e => ⟨rfl,rfl,rfl⟩
 | v :: r,e => by
  simp only [sgE]
  split
  ·exact sgE_same r e
  ·exact sgE_same r (e.bt (if v < 0 then 1 else 0) 1)
theorem signs9_F (hN : 30000 <= N) {l : List Int} (hl : l.length <= 1000) {e : E} (h : e.Ok) (hk : e.k <= 10000) (hr : e.r <= 90000) :
  Rc.signs9.F N e.val e.rng e.r e.count l e.told e.bits = some (0,(sgE l e).val,(sgE l e).rng,((sgE l e).r : Int),(sgE l e).count,(sgE l e).told,(sgE l e).bits) := by
 unfold Rc.signs9.F
 obtain ⟨s,hs⟩ := signs9_loop (N:=N) (ev:=e.val) (er:=e.rng) (erb:=(e.r : Int)) (ec:=e.count) (el:=l) (et:=e.told) (ew:=e.bits) hN hl N 0 e 0 h hk (by omega) (by omega) (by omega)
 rw [show ((0 : Nat) : Int) = 0 from rfl,List.drop_zero] at hs
 obtain ⟨a1,a2,a3⟩ := sgE_same l e
 rw [hs,osum_inl,a1,a2,a3]
theorem write9_loop {ev er erb ec : Int} {el et ew : List Int} (hN : 30000 <= N) {l : List Int} (hl : l.length <= 480) : ∀ (nn m k : Nat) (e : E) (s4 : Int),e.Ok -> e.k + 68 * m <= 9000 -> e.r + 16 * m <= 9000 -> k + 16 * m = l.length -> okB m (l.drop k) = true -> m < nn ->
  ∃ s,Rc.write9.loop4 N nn ev er erb ec el et ew l s4 k e.val e.rng e.r e.count e.told e.bits = some (.inl (s,(wrE m (l.drop k) e).val,(wrE m (l.drop k) e).rng,((wrE m (l.drop k) e).r : Int),(wrE m (l.drop k) e).count,(wrE m (l.drop k) e).told,(wrE m (l.drop k) e).bits))
 | 0,m,k,e,s4,_,_,_,_,_,h => by omega
 | nn + 1,0,k,e,s4,h,hk,hr,hkl,ho,hn => by
  unfold Rc.write9.loop4
  simp only [br_dec]
  rw [if_neg (by omega)]
  exact ⟨_,rfl⟩
 | nn + 1,m + 1,k,e,s4,h,hk,hr,hkl,ho,hn => by
  obtain ⟨o1,o2⟩ := okB_head ho
  rw [List.drop_drop] at o2
  have c0 := (cnt_range ((l.drop k).take 16)).1
  have hlen : ((l.drop k).take 16).length = 16 := by rw [List.length_take,List.length_drop]; omega
  have low : e.Low := ⟨by omega,by omega⟩
  obtain ⟨s1,s2,s3,s5⟩ := sy5_facts h (s:=(cnt ((l.drop k).take 16)).toNat) (by omega)
  obtain ⟨a1,a2,a3,a4⟩ := spE_facts 4 ((l.drop k).take 16) _ s1 o1
  obtain ⟨b1,b2,b3,b4,b5⟩ := wrB_facts h hlen o1
  unfold Rc.write9.loop4
  simp only [br_dec,br_bne,chkL_same]
  have hsy := (esymbol_F h (low.lim hN) (cnt ((l.drop k).take 16)) (icdfT 5) (raw:=e.bits)).1 ⟨g5,c0,by rw [len5]; omega⟩
  have hbits : (e.sy (cnt ((l.drop k).take 16)).toNat (icdfT 5)).bits = e.bits := by
   have := E.tk_same e (symL (icdfT 5) (cnt ((l.drop k).take 16)).toNat) (256 - (icdfT 5).getD (cnt ((l.drop k).take 16)).toNat 0) 256
   unfold E.bits E.sy
   rw [this.1,this.2.1]
  rw [if_pos (by omega),i64 (x:=(k : Int) + 16) (by omega) (by omega),chk_pos (by omega),chk_pos (by omega),show ((k : Int) + 16).toNat = k + 16 by omega,Int.toNat_natCast,show k + 16 - k = 16 by omega,
   count9_F (by omega) (by omega),obind_of,ticdf9_F,obind_of,hsy,obind_of]
  simp only [if_true]
  have hsp : Rc.spread9.F N _ _ _ _ ((l.drop k).take 16) _ _ = _ := spread9_G (N:=N) hN (M:=10000) (fun _ => Nat.le_refl _) N 4 ((l.drop k).take 16) _ s1 (by omega) (by omega) hlen (by omega) o1 (by omega)
  rw [hbits,s5] at hsp
  rw [hsp,obind_of]
  simp only [if_true]
  rw [signs9_F hN (by omega) a1 (by omega) (by omega),obind_of]
  simp only [if_true]
  have ih := write9_loop (ev:=ev) (er:=er) (erb:=erb) (ec:=ec) (el:=el) (et:=et) (ew:=ew) hN hl nn m (k + 16) (wrB ((l.drop k).take 16) e) s4 b1 (by omega) (by omega) (by omega) o2 (by omega)
  rw [show ((k + 16 : Nat) : Int) = (k : Int) + 16 by omega,<- List.drop_drop] at ih
  exact ih
end
section
variable {b : List Int}
theorem spE_back (hb : Bytes b) : ∀ (d : Nat) (l : List Int) (e : E),e.Ok -> l.length = 2 ^ d -> cnt l <= 16 -> (spE d l e).Fit b -> e.Fit b /\ shq b d (cnt l) (e.rd b) = ((spE d l e).rd b,l.map fun v => ab (c32 v))
 | 0,l,e,h,hl,hc,hf => by
  match l,hl with
  | [v],_ => exact ⟨hf,by simp [shq,spE,cnt,tot]⟩
 | d + 1,l,e,h,hl,hc,hf => by
  obtain ⟨c1,c2,c3⟩ := cnt_half (l:=l) (2 ^ d)
  have hp : 2 ^ (d + 1) = 2 * 2 ^ d := by rw [Nat.pow_succ,Nat.mul_comm]
  have hu := E.un_ok h (v:=cnt (l.take (2 ^ d))) (ft:=cnt l + 1) c2 (by omega) (by omega)
  obtain ⟨a1,a2,a3,a4⟩ := spE_facts d (l.take (2 ^ d)) _ hu (by omega)
  simp only [spE] at hf
  obtain ⟨f2,r2⟩ := spE_back hb d (l.drop (2 ^ d)) _ a1 (by rw [List.length_drop]; omega) (by omega) hf
  obtain ⟨f1,r1⟩ := spE_back hb d (l.take (2 ^ d)) _ hu (by rw [List.length_take]; omega) (by omega) f2
  have hrd : e.Fit b /\ rdv b (e.rd b) (cnt l + 1) = (cnt (l.take (2 ^ d)),(e.un (cnt (l.take (2 ^ d))) (cnt l + 1)).rd b) := by
   unfold rdv
   by_cases cz : cnt l = 0
   ·rw [if_pos (by omega)]
    have eu : e.un (cnt (l.take (2 ^ d))) (cnt l + 1) = e := by unfold E.un; rw [if_pos (by omega)]
    rw [eu] at f1 ⊢
    exact ⟨f1,by rw [show cnt (l.take (2 ^ d)) = 0 by omega]⟩
   ·rw [if_neg (by omega)]
    obtain ⟨u1,u2,u3,u4⟩ := E.us_back hb h (v:=cnt (l.take (2 ^ d))) (ft:=cnt l + 1) c2 (by omega) (by omega) (by omega) f1
    exact ⟨u1,by rw [u2,u3]⟩
  refine ⟨hrd.1,?_⟩
  simp only [shq]
  rw [hrd.2]
  simp only
  rw [r1]
  simp only
  rw [show cnt l - cnt (l.take (2 ^ d)) = cnt (l.drop (2 ^ d)) by omega,r2]
  simp only [spE]
  rw [<- List.map_append,List.take_append_drop]
theorem sgE_fit (hb : Bytes b) : ∀ (l : List Int) (e : E),e.Ok -> (sgE l e).Fit b -> e.Fit b /\ (sgE l e).rd b = e.rd b
 | [],e,_,h => ⟨h,rfl⟩
 | v :: r,e,h,hf => by
  simp only [sgE] at hf ⊢
  by_cases c : v = 0
  ·rw [if_pos c] at hf ⊢
   exact sgE_fit hb r e h hf
  ·rw [if_neg c] at hf ⊢
   have v0 : 0 <= (if v < 0 then (1 : Int) else 0) := by split <;> omega
   have v1 : (if v < 0 then (1 : Int) else 0) < 2 ^ 1 := by split <;> omega
   obtain ⟨i1,i2⟩ := sgE_fit hb r _ (E.bt_ok h v0 v1) hf
   exact ⟨(E.bt_fit h v0 v1 i1).1,i2⟩
theorem sgE_back (hb : Bytes b) : ∀ (l : List Int) (e : E) (w : W),e.Ok -> (∀ v ∈ l,-32 <= v /\ v <= 32) -> (sgE l e).Fit b -> w.Ok -> w.At b e.r ->
  ∃ w',sgn b (l.map fun v => ab (c32 v)) w = (l,w',((sgE l e).r : Int) - (e.r : Int)) /\ w'.Ok /\ w'.At b (sgE l e).r
 | [],e,w,_,_,_,hw,hat => ⟨w,by simp [sgn,sgE],hw,hat⟩
 | v :: r,e,w,h,hv,hf,hw,hat => by
  have hv1 := hv v (by simp)
  have hvr : ∀ x ∈ r,-32 <= x /\ x <= 32 := fun x hx => hv x (by simp [hx])
  have hc : c32 v = v := by unfold c32; rw [if_neg (by omega),if_neg (by omega)]
  simp only [List.map_cons,sgn,hc]
  simp only [sgE] at hf ⊢
  by_cases c : v = 0
  ·rw [if_pos c] at hf ⊢
   obtain ⟨w',i1,i2,i3⟩ := sgE_back hb r e w h hvr hf hw hat
   rw [if_neg (show ¬ ab v > 0 by rw [c]; decide),i1]
   exact ⟨w',by rw [c]; rfl,i2,i3⟩
  ·rw [if_neg c] at hf ⊢
   have v0 : 0 <= (if v < 0 then (1 : Int) else 0) := by split <;> omega
   have v1 : (if v < 0 then (1 : Int) else 0) < 2 ^ 1 := by split <;> omega
   have hok := E.bt_ok h v0 v1
   have hfe := (sgE_fit hb r _ hok hf).1
   obtain ⟨g1,g2,g3,g4⟩ := E.bt_back hb h (by omega) v0 v1 hfe hat
   obtain ⟨w',i1,i2,i3⟩ := sgE_back hb r _ (w.next b 1) hok hvr hf (W.next_ok hb hw (by omega)) g3
   have e2 : (e.bt (if v < 0 then 1 else 0) 1).r = e.r + 1 := rfl
   rw [if_pos (show ab v > 0 by unfold ab; split <;> omega),i1]
   refine ⟨w',?_,i2,i3⟩
   simp only [g2]
   refine Prod.ext ?_ (Prod.ext rfl ?_)
   ·simp only
    congr 1
    unfold ab
    by_cases c1 : v < 0
    ·rw [if_pos c1,if_pos c1,if_pos rfl]; omega
    ·rw [if_neg c1,if_neg c1,if_neg (by omega)]
   ·simp only
    omega
theorem cnt_small : ∀ {l : List Int},cnt l <= 16 -> ∀ v ∈ l,-32 <= v /\ v <= 32
 | [],_,v,hv => by simp at hv
 | x :: r,h,v,hv => by
  have e : cnt (x :: r) = ab (c32 x) + cnt r := rfl
  have hr := (cnt_range r).1
  have hx := c32_ab x
  rcases List.mem_cons.1 hv with rfl | hv
  ·rw [e] at h
   unfold ab c32 at h hx
   constructor <;> (split at h <;> split at h <;> (try split at h) <;> omega)
  ·exact cnt_small (by omega) v hv
theorem wrB_back (hb : Bytes b) {l : List Int} {e : E} (h : e.Ok) (hl : l.length = 16) (hc : cnt l <= 16) (hf : (wrB l e).Fit b) : e.Fit b /\
  ∀ (w : W),w.Ok -> w.At b e.r -> ∃ w',(bsh b (e.rd b)).1 = (wrB l e).rd b /\ sgn b (bsh b (e.rd b)).2 w = (l,w',((wrB l e).r : Int) - (e.r : Int)) /\ w'.Ok /\ w'.At b (wrB l e).r := by
 have c0 := (cnt_range l).1
 obtain ⟨s1,s2,s3,s4⟩ := sy5_facts h (s:=(cnt l).toNat) (by omega)
 obtain ⟨a1,a2,a3,a4⟩ := spE_facts 4 l _ s1 hc
 unfold wrB at hf
 obtain ⟨f1,r1⟩ := sgE_fit hb l _ a1 hf
 obtain ⟨f2,r2⟩ := spE_back hb 4 l _ s1 hl hc f1
 obtain ⟨f3,r3,r4⟩ := E.sy_back hb h g5 (s:=(cnt l).toNat) (by rw [len5]; omega) f2
 have hbs : bsh b (e.rd b) = ((spE 4 l (e.sy (cnt l).toNat (icdfT 5))).rd b,l.map fun v => ab (c32 v)) := by
  unfold bsh
  rw [r3,<- r4,show (((cnt l).toNat : Nat) : Int) = cnt l by omega,r2]
 refine ⟨f3,fun w hw hat => ?_⟩
 rw [hbs]
 obtain ⟨w',i1,i2,i3⟩ := sgE_back hb l _ w a1 (cnt_small hc) hf hw (by rw [a4,s4]; exact hat)
 rw [a4,s4] at i1
 exact ⟨w',by unfold wrB; rw [r1],i1,i2,i3⟩
theorem wrE_back (hb : Bytes b) : ∀ (m : Nat) (l : List Int) (e : E),e.Ok -> l.length = 16 * m -> okB m l = true -> (wrE m l e).Fit b -> e.Fit b /\
  ∀ (w : W) (C : Int) (o : List Int),w.Ok -> w.At b e.r -> ∃ w',blks b m (e.rd b) w C o = ((wrE m l e).rd b,w',C + (((wrE m l e).r : Int) - (e.r : Int)),o ++ l)
 | 0,l,e,h,hl,ho,hf => by
  refine ⟨hf,fun w C o hw hat => ⟨w,?_⟩⟩
  have : l = [] := by simpa using hl
  simp [blks,wrE,this]
 | m + 1,l,e,h,hl,ho,hf => by
  obtain ⟨o1,o2⟩ := okB_head ho
  have hlen : (l.take 16).length = 16 := by rw [List.length_take]; omega
  obtain ⟨b1,b2,b3,b4,b5⟩ := wrB_facts h hlen o1
  simp only [wrE] at hf
  obtain ⟨i1,i2⟩ := wrE_back hb m (l.drop 16) _ b1 (by rw [List.length_drop]; omega) o2 hf
  obtain ⟨k1,k2⟩ := wrB_back hb h hlen o1 i1
  refine ⟨k1,fun w C o hw hat => ?_⟩
  obtain ⟨w1,q1,q2,q3,q4⟩ := k2 w hw hat
  obtain ⟨w2,j⟩ := i2 w1 (C + (((wrB (l.take 16) e).r : Int) - (e.r : Int))) (o ++ l.take 16) q3 q4
  refine ⟨w2,?_⟩
  simp only [blks]
  rw [q1,q2]
  simp only
  rw [j]
  simp only [wrE,List.append_assoc,List.take_append_drop]
  refine Prod.ext rfl (Prod.ext rfl (Prod.ext ?_ rfl))
  simp only
  omega
end
section
variable {N : Nat}
end
end Go.Pl
/-
 Layer 14: may a frame be, in the law's words.
 Conditions: none.
-/
namespace Go.Pl
open Go.Eng Go.Proofs
noncomputable instance {rate ms kind one btw : Int} {two gains pulses : List Int} {ltps : List (List Int)} : Decidable (GoodF rate ms kind one btw two gains pulses ltps) := Classical.propDecidable _
section
variable {N : Nat}
theorem r6good_loop {e0 e1 : Int} {e2 l : List Int} (hl : l.length <= 1000000) (s : Bool) : ∀ (nn k : Nat),k <= l.length -> l.length - k < nn ->
  Rc.r6good.loop4 N nn e0 e1 e2 l (k : Int) s = if ∀ x ∈ l.drop k,(-4 : Int) <= x /\ x <= 4 then some (.inl s) else some (.inr false)
 | 0,k,_,h => by omega
 | nn + 1,k,hk,h => by
  unfold Rc.r6good.loop4
  simp only [br_dec,chkL_same,chkI_same]
  by_cases c : k < l.length
  ·have ih := r6good_loop (e0:=e0) (e1:=e1) (e2:=e2) hl s nn (k + 1) (by omega) (by omega)
   rw [show ((k + 1 : Nat) : Int) = (k : Int) + 1 by omega] at ih
   rw [if_pos (by omega),chk_pos (by omega),Int.toNat_natCast,i64 (by omega) (by omega),drop_cons c]
   by_cases d : l.getD k 0 < -4
   ·rw [if_pos d,if_neg (fun h => by have := (h _ (List.mem_cons_self ..)).1; omega)]; rfl
   ·rw [if_neg d,chk_pos (by omega)]
    by_cases d' : l.getD k 0 > 4
    ·rw [if_pos d',if_neg (fun h => by have := (h _ (List.mem_cons_self ..)).2; omega)]; rfl
    ·rw [if_neg d',ih]
     have e : (∀ x ∈ l.getD k 0 :: l.drop (k + 1),(-4 : Int) <= x /\ x <= 4) ↔ ∀ x ∈ l.drop (k + 1),(-4 : Int) <= x /\ x <= 4 :=
      ⟨fun h x hx => h x (List.mem_cons_of_mem _ hx),fun h x hx => (List.mem_cons.1 hx).elim (fun he => by rw [he]; omega) (fun hx => h x hx)⟩
     simp only [e]
  ·rw [if_neg (by omega),if_pos (fun x hx => by rw [List.drop_eq_nil_of_le (by omega)] at hx; simp at hx)]
theorem r6good_F {rate one : Int} {two : List Int} (hr : rate = 8000 \/ rate = 16000) (hN : 30000 <= N) : Rc.r6good.F N (ord14 rate : Int) one two = some (decide (0 <= one /\ one <= 15 /\ two.length = ord14 rate /\ ∀ x ∈ two,-4 <= x /\ x <= 4)) := by
 have ho := ord14_le rate
 have hu : ((ord14 rate : Nat) : Int) = 10 \/ ((ord14 rate : Nat) : Int) = 16 := by rcases hr with rfl | rfl <;> decide
 unfold Rc.r6good.F
 simp only [br_dec,br_bne,br_beq]
 have main : (if one < 0 then some false else if one > 15 then some false else if (two.length : Int) = (ord14 rate : Int) then osum (Rc.r6good.loop4 N N (ord14 rate : Int) one two two 0 false) fun _ => some true else some false) = some (decide (0 <= one /\ one <= 15 /\ two.length = ord14 rate /\ ∀ x ∈ two,-4 <= x /\ x <= 4)) := by
  by_cases d1 : one < 0
  ·rw [if_pos d1,decide_eq_false (by omega)]
  rw [if_neg d1]
  by_cases d2 : one > 15
  ·rw [if_pos d2,decide_eq_false (by omega)]
  rw [if_neg d2]
  by_cases d3 : two.length = ord14 rate
  ·rw [if_pos (by omega)]
   have := r6good_loop (N:=N) (e0:=(ord14 rate : Int)) (e1:=one) (e2:=two) (l:=two) (by omega) false N 0 (by omega) (by omega)
   rw [show ((0 : Nat) : Int) = 0 from rfl,List.drop_zero] at this
   rw [this]
   by_cases d4 : ∀ x ∈ two,-4 <= x /\ x <= 4
   ·rw [if_pos d4,osum_inl,decide_eq_true ⟨by omega,by omega,d3,d4⟩]
   ·rw [if_neg d4,decide_eq_false (fun h => d4 h.2.2.2)]; rfl
  ·rw [if_neg (by omega),decide_eq_false (fun h => d3 h.2.2.1)]
 by_cases c : ((ord14 rate : Nat) : Int) = 10
 ·rw [if_pos c]; exact main
 ·rw [if_neg c,if_pos (by omega)]; exact main
theorem good14_loop9 {e0 e1 e2 e3 e4 : Int} {e5 : Bool} {e6 e7 e8 : List Int} {e9 : List (List Int)} {k1 o1 b1 : Int} {f1 : Bool} {t1 p1 : List Int} {q1 : List (List Int)} {l : List Int} (hl : l.length <= 1000000) (s : Bool) : ∀ (nn k : Nat),k <= l.length -> l.length - k < nn ->
  Rc.good14.loop9 N nn e0 e1 e2 e3 e4 e5 e6 e7 e8 e9 k1 o1 b1 f1 t1 l p1 q1 (k : Int) s = if ∀ x ∈ l.drop k,(0 : Int) <= x /\ x <= 63 then some (.inl s) else some (.inr false)
 | 0,k,_,h => by omega
 | nn + 1,k,hk,h => by
  unfold Rc.good14.loop9
  simp only [br_dec,chkL_same,chkI_same,chkB_same,chkR_same]
  by_cases c : k < l.length
  ·have ih := good14_loop9 (e0:=e0) (e1:=e1) (e2:=e2) (e3:=e3) (e4:=e4) (e5:=e5) (e6:=e6) (e7:=e7) (e8:=e8) (e9:=e9) (k1:=k1) (o1:=o1) (b1:=b1) (f1:=f1) (t1:=t1) (p1:=p1) (q1:=q1) hl s nn (k + 1) (by omega) (by omega)
   rw [show ((k + 1 : Nat) : Int) = (k : Int) + 1 by omega] at ih
   rw [if_pos (by omega),chk_pos (by omega),Int.toNat_natCast,i64 (by omega) (by omega),drop_cons c]
   by_cases d : l.getD k 0 < 0
   ·rw [if_pos d,if_neg (fun h => by have := (h _ (List.mem_cons_self ..)).1; omega)]; rfl
   ·rw [if_neg d,chk_pos (by omega)]
    by_cases d' : l.getD k 0 > 63
    ·rw [if_pos d',if_neg (fun h => by have := (h _ (List.mem_cons_self ..)).2; omega)]; rfl
    ·rw [if_neg d',ih]
     have e : (∀ x ∈ l.getD k 0 :: l.drop (k + 1),(0 : Int) <= x /\ x <= 63) ↔ ∀ x ∈ l.drop (k + 1),(0 : Int) <= x /\ x <= 63 :=
      ⟨fun h x hx => h x (List.mem_cons_of_mem _ hx),fun h x hx => (List.mem_cons.1 hx).elim (fun he => by rw [he]; omega) (fun hx => h x hx)⟩
     simp only [e]
  ·rw [if_neg (by omega),if_pos (fun x hx => by rw [List.drop_eq_nil_of_le (by omega)] at hx; simp at hx)]
theorem good14_loop15 {e0 e1 e2 e3 e4 : Int} {e5 : Bool} {e6 e7 e8 : List Int} {e9 : List (List Int)} {lo hi k1 o1 b1 : Int} {f1 : Bool} {t1 g1 p1 : List Int} {l : List (List Int)} (hl : l.length <= 1000000) (s : Bool) : ∀ (nn k : Nat),k <= l.length -> l.length - k < nn ->
  Rc.good14.loop15 N nn e0 e1 e2 e3 e4 e5 e6 e7 e8 e9 lo hi k1 o1 b1 f1 t1 g1 p1 l (k : Int) s = if ∀ r ∈ l.drop k,lo <= r.headD 0 /\ r.headD 0 <= hi /\ 0 <= r.tail.headD 0 /\ r.tail.headD 0 <= 7 then some (.inl s) else some (.inr false)
 | 0,k,_,h => by omega
 | nn + 1,k,hk,h => by
  unfold Rc.good14.loop15
  simp only [br_dec,chkL_same,chkI_same,chkB_same,chkR_same]
  by_cases c : k < l.length
  ·have ih := good14_loop15 (e0:=e0) (e1:=e1) (e2:=e2) (e3:=e3) (e4:=e4) (e5:=e5) (e6:=e6) (e7:=e7) (e8:=e8) (e9:=e9) (lo:=lo) (hi:=hi) (k1:=k1) (o1:=o1) (b1:=b1) (f1:=f1) (t1:=t1) (g1:=g1) (p1:=p1) hl s nn (k + 1) (by omega) (by omega)
   rw [show ((k + 1 : Nat) : Int) = (k : Int) + 1 by omega] at ih
   rw [if_pos (by omega),chk_pos (by omega),Int.toNat_natCast,i64 (by omega) (by omega),getM_drop c]
   by_cases d1 : (l.getD k []).headD 0 < lo
   ·rw [if_pos d1,if_neg (fun h => by have := (h _ (List.mem_cons_self ..)).1; omega)]; rfl
   rw [if_neg d1,chk_pos (by omega)]
   by_cases d2 : (l.getD k []).headD 0 > hi
   ·rw [if_pos d2,if_neg (fun h => by have := (h _ (List.mem_cons_self ..)).2.1; omega)]; rfl
   rw [if_neg d2,chk_pos (by omega)]
   by_cases d3 : (l.getD k []).tail.headD 0 < 0
   ·rw [if_pos d3,if_neg (fun h => by have := (h _ (List.mem_cons_self ..)).2.2.1; omega)]; rfl
   rw [if_neg d3,chk_pos (by omega)]
   by_cases d4 : (l.getD k []).tail.headD 0 > 7
   ·rw [if_pos d4,if_neg (fun h => by have := (h _ (List.mem_cons_self ..)).2.2.2; omega)]; rfl
   rw [if_neg d4,ih]
   have e : (∀ r ∈ l.getD k [] :: l.drop (k + 1),lo <= r.headD 0 /\ r.headD 0 <= hi /\ 0 <= r.tail.headD 0 /\ r.tail.headD 0 <= 7) ↔ ∀ r ∈ l.drop (k + 1),lo <= r.headD 0 /\ r.headD 0 <= hi /\ 0 <= r.tail.headD 0 /\ r.tail.headD 0 <= 7 :=
    ⟨fun h x hx => h x (List.mem_cons_of_mem _ hx),fun h x hx => by
     rcases List.mem_cons.1 hx with rfl | hx
     ·omega
     ·exact h x hx⟩
   simp only [e]
  ·rw [if_neg (by omega),if_pos (fun x hx => by rw [List.drop_eq_nil_of_le (by omega)] at hx; simp at hx)]
theorem rlags14_F (rate : Int) : Rc.rlags.F N rate = Rc.glags.F N rate := rfl
theorem good14_end {rate ms kind one btw : Int} {two gains pulses : List Int} {ltps : List (List Int)} (hN : 30000 <= N) (hm : May14 rate ms) {kd : 0 <= kind /\ kind <= 2} {on : 0 <= one /\ one <= 15} {tw : two.length = ord14 rate /\ ∀ x ∈ two,-4 <= x /\ x <= 4} {bt : 0 <= btw /\ btw <= 4}
  {ga : gains.length = cnt14 ms /\ ∀ x ∈ gains,0 <= x /\ x <= 63} (hlt : ∀ r ∈ ltps,lo8 rate <= r.headD 0 /\ r.headD 0 <= hi8 rate /\ 0 <= r.tail.headD 0 /\ r.tail.headD 0 <= 7) {C B : Int} (hC : C = (cnt14 ms : Int)) (hB : B = 16 * (blk14 rate ms : Int)) {P : Option Bool}
  (hP : P = if kind = 0 then some ((pulses.length : Int) == 0) else if (pulses.length : Int) = B then obind (Rc.rgood9.F N pulses) fun r => some r else some false) :
  (if kind = 2 then if (ltps.length : Int) = C then if kind = 2 then P else if (ltps.length : Int) = 0 then P else some false else some false else if kind = 2 then P else if (ltps.length : Int) = 0 then P else some false) = some (decide (GoodF rate ms kind one btw two gains pulses ltps)) := by
 have hp : P = some (decide (if kind = 0 then pulses = [] else pulses.length = 16 * blk14 rate ms /\ goodB pulses = true)) := by
  rw [hP]
  by_cases d1 : kind = 0
  ·simp only [if_pos d1]
   congr 1
   by_cases d3 : pulses = []
   ·simp [d3]
   ·rw [decide_eq_false d3]
    have : pulses.length ≠ 0 := fun h => d3 (List.eq_nil_of_length_eq_zero h)
    simp; omega
  ·simp only [if_neg d1]
   by_cases d2 : pulses.length = 16 * blk14 rate ms
   ·rw [if_pos (by omega),rgood9_F _ hN,obind_of]
    congr 1
    cases hg : goodB pulses with
    | true => rw [decide_eq_true ⟨d2,rfl⟩]
    | false => rw [decide_eq_false (fun h => by simp at h)]
   ·rw [if_neg (by omega),decide_eq_false (fun h => d2 h.1)]
 by_cases d : kind = 2
 ·rw [if_pos d]
  by_cases d2 : ltps.length = cnt14 ms
  ·rw [if_pos (by omega),if_pos d,hp]
   congr 1
   by_cases d3 : (if kind = 0 then pulses = [] else pulses.length = 16 * blk14 rate ms /\ goodB pulses = true)
   ·rw [decide_eq_true d3,decide_eq_true]
    exact ⟨hm,kd,on,tw,bt,ga,by rw [if_pos d]; exact ⟨d2,hlt⟩,d3⟩
   ·rw [decide_eq_false d3,decide_eq_false]
    exact fun h => d3 h.pu
  ·rw [if_neg (by omega),decide_eq_false]
   intro h
   have := h.lt
   rw [if_pos d] at this
   exact d2 this.1
 ·rw [if_neg d,if_neg d]
  by_cases d2 : ltps = []
  ·rw [if_pos (by rw [d2]; rfl),hp]
   congr 1
   by_cases d3 : (if kind = 0 then pulses = [] else pulses.length = 16 * blk14 rate ms /\ goodB pulses = true)
   ·rw [decide_eq_true d3,decide_eq_true]
    exact ⟨hm,kd,on,tw,bt,ga,by rw [if_neg d]; exact d2,d3⟩
   ·rw [decide_eq_false d3,decide_eq_false]
    exact fun h => d3 h.pu
  ·have : ltps.length ≠ 0 := fun h => d2 (List.eq_nil_of_length_eq_zero h)
   rw [if_neg (by omega),decide_eq_false]
   intro h
   have := h.lt
   rw [if_neg d] at this
   exact d2 this
theorem good14_F (hN : 30000 <= N) {rate ms kind one btw : Int} {fresh : Bool} {two gains pulses : List Int} {ltps : List (List Int)} (l3 : ltps.length <= 1000) :
  Rc.good14.F N rate ms kind one btw fresh two gains pulses ltps = some (decide (GoodF rate ms kind one btw two gains pulses ltps)) := by
 have no : ∀ {P : Prop} [Decidable P],¬ P -> some false = some (decide P) := fun h => by rw [decide_eq_false h]
 unfold Rc.good14.F
 simp only [br_dec,br_bne,br_beq,br_not]
 by_cases m1 : ¬ May14 rate ms
 ·have : ¬ GoodF rate ms kind one btw two gains pulses ltps := fun h => m1 h.may
  unfold May14 at m1
  by_cases r1 : rate = 8000
  ·rw [if_pos r1,if_neg (by omega),if_neg (by omega)]; exact no this
  ·by_cases r2 : rate = 16000
   ·rw [if_neg r1,if_pos r2,if_neg (by omega),if_neg (by omega)]; exact no this
   ·rw [if_neg r1,if_neg r2]; exact no this
 have hm := Classical.not_not.1 m1
 obtain ⟨m1,m2,m3,m4,m5,m6,m7,m8⟩ := may_facts hm
 have h6 := r6good_F (N:=N) (one:=one) (two:=two) hm.1 hN
 have hlg := lags_of rate
 have h9 := good14_loop9 (N:=N) (e0:=rate) (e1:=ms) (e2:=kind) (e3:=one) (e4:=btw) (e5:=fresh) (e6:=two) (e7:=gains) (e8:=pulses) (e9:=ltps) (k1:=kind) (o1:=one) (b1:=btw) (f1:=fresh) (t1:=two) (p1:=pulses) (q1:=ltps) (l:=gains)
 have h15 := good14_loop15 (N:=N) (e0:=rate) (e1:=ms) (e2:=kind) (e3:=one) (e4:=btw) (e5:=fresh) (e6:=two) (e7:=gains) (e8:=pulses) (e9:=ltps) (lo:=lo8 rate) (hi:=hi8 rate) (k1:=kind) (o1:=one) (b1:=btw) (f1:=fresh) (t1:=two) (g1:=gains) (p1:=pulses) (l:=ltps) (by omega) false N 0 (by omega) (by omega)
 rw [show ((0 : Nat) : Int) = 0 from rfl,List.drop_zero] at h15
 have hgl : Rc.rlags.F N rate = some (lo8 rate,hi8 rate) := by rw [rlags14_F]; exact glags_F ..
 have hC : IntKind.i64.wrap (ms.tdiv 5) = (cnt14 ms : Int) := by rw [m2,i64 (by omega) (by omega)]
 have hB : IntKind.i64.wrap ((IntKind.i64.wrap (rate * ms)).tdiv 1000) = 16 * (blk14 rate ms : Int) := by rw [m8,m5,i64 (by omega) (by omega)]
 simp only [hC,hB,hgl,obind_of]
 have key : ∀ (tail : Option Bool),(∀ (_ : 0 <= kind /\ kind <= 2) (_ : 0 <= one /\ one <= 15) (_ : two.length = ord14 rate /\ ∀ x ∈ two,-4 <= x /\ x <= 4) (_ : 0 <= btw /\ btw <= 4) (_ : gains.length = cnt14 ms),tail = osum (Rc.good14.loop9 N N rate ms kind one btw fresh two gains pulses ltps kind one btw fresh two gains pulses ltps 0 false) fun r1 => osum (Rc.good14.loop15 N N rate ms kind one btw fresh two gains pulses ltps (lo8 rate) (hi8 rate) kind one btw fresh two gains pulses ltps 0 r1) fun r3 =>
   (if kind = 2 then if (ltps.length : Int) = (cnt14 ms : Int) then if kind = 2 then (if kind = 0 then some ((pulses.length : Int) == 0) else if (pulses.length : Int) = 16 * (blk14 rate ms : Int) then obind (Rc.rgood9.F N pulses) fun r => some r else some false) else if (ltps.length : Int) = 0 then (if kind = 0 then some ((pulses.length : Int) == 0) else if (pulses.length : Int) = 16 * (blk14 rate ms : Int) then obind (Rc.rgood9.F N pulses) fun r => some r else some false) else some false else some false else if kind = 2 then (if kind = 0 then some ((pulses.length : Int) == 0) else if (pulses.length : Int) = 16 * (blk14 rate ms : Int) then obind (Rc.rgood9.F N pulses) fun r => some r else some false) else if (ltps.length : Int) = 0 then (if kind = 0 then some ((pulses.length : Int) == 0) else if (pulses.length : Int) = 16 * (blk14 rate ms : Int) then obind (Rc.rgood9.F N pulses) fun r => some r else some false) else some false)) ->
   (if kind < 0 then some false else if kind > 2 then some false else if btw < 0 then some false else if btw > 4 then some false else if (gains.length : Int) = (cnt14 ms : Int) then obind (Rc.r6good.F N (ord14 rate : Int) one two) fun r0 => if r0 = true then tail else some false else some false) = some (decide (GoodF rate ms kind one btw two gains pulses ltps)) := by
  intro tail ht
  by_cases c1 : kind < 0
  ·rw [if_pos c1]; exact no fun h => by have := h.kd; omega
  by_cases c2 : kind > 2
  ·rw [if_neg c1,if_pos c2]; exact no fun h => by have := h.kd; omega
  by_cases c3 : btw < 0
  ·rw [if_neg c1,if_neg c2,if_pos c3]; exact no fun h => by have := h.bt; omega
  by_cases c4 : btw > 4
  ·rw [if_neg c1,if_neg c2,if_neg c3,if_pos c4]; exact no fun h => by have := h.bt; omega
  rw [if_neg c1,if_neg c2,if_neg c3,if_neg c4]
  by_cases c5 : gains.length = cnt14 ms
  ·rw [if_pos (by omega),h6,obind_of]
   by_cases c6 : 0 <= one /\ one <= 15 /\ two.length = ord14 rate /\ ∀ x ∈ two,-4 <= x /\ x <= 4
   ·rw [decide_eq_true c6,if_pos rfl,ht ⟨by omega,by omega⟩ ⟨c6.1,c6.2.1⟩ c6.2.2 ⟨by omega,by omega⟩ c5]
    have h9 := h9 (by omega) false N 0 (by omega) (by omega)
    rw [show ((0 : Nat) : Int) = 0 from rfl,List.drop_zero] at h9
    rw [h9]
    by_cases c7 : ∀ x ∈ gains,0 <= x /\ x <= 63
    ·rw [if_pos c7,osum_inl,h15]
     by_cases c8 : ∀ r ∈ ltps,lo8 rate <= r.headD 0 /\ r.headD 0 <= hi8 rate /\ 0 <= r.tail.headD 0 /\ r.tail.headD 0 <= 7
     ·rw [if_pos c8,osum_inl]
      exact good14_end hN hm (kd:=⟨by omega,by omega⟩) (on:=⟨c6.1,c6.2.1⟩) (tw:=c6.2.2) (bt:=⟨by omega,by omega⟩) (ga:=⟨c5,c7⟩) c8 rfl rfl rfl
     ·rw [if_neg c8]
      refine no fun h => c8 ?_
      have := h.lt
      split at this
      ·exact this.2
      ·rw [this]; intro r hr; simp at hr
    ·rw [if_neg c7]
     exact no fun h => c7 h.ga.2
   ·rw [decide_eq_false c6]
    simp only [Bool.false_eq_true,if_false]
    exact no fun h => c6 ⟨h.on.1,h.on.2,h.tw⟩
  ·rw [if_neg (by omega)]; exact no fun h => c5 h.ga.1
 rcases hm.1 with r1 | r1
 ·have e0 : (ord14 rate : Int) = 10 := by rw [r1]; decide
  rw [e0] at key
  rw [if_pos r1]
  have e16 : ¬ rate = 16000 := by omega
  simp only [if_neg e16]
  rcases hm.2 with r2 | r2
  ·rw [if_pos r2]
   exact key _ (fun _ _ _ _ _ => rfl)
  ·have : ¬ ms = 10 := by omega
   rw [if_neg this,if_pos r2]
   exact key _ (fun _ _ _ _ _ => rfl)
 ·have e0 : (ord14 rate : Int) = 16 := by rw [r1]; decide
  rw [e0] at key
  have e8 : ¬ rate = 8000 := by omega
  rw [if_neg e8,if_pos r1]
  simp only [if_pos r1]
  rcases hm.2 with r2 | r2
  ·rw [if_pos r2]
   exact key _ (fun _ _ _ _ _ => rfl)
  ·have : ¬ ms = 10 := by omega
   rw [if_neg this,if_pos r2]
   exact key _ (fun _ _ _ _ _ => rfl)
end
end Go.Pl
/-
 Layer 14: a frame is written.
 Conditions: none.
-/
namespace Go.Pl
open Go.Eng Go.Proofs
structure E.B (e : E) (n : Nat) : Prop where
 ok : e.Ok
 k : e.k <= 4 * n
 r : e.r <= 32 * n
theorem E.B.mono {e : E} {k k' : Nat} (h : e.B k) (hk : k <= k') : e.B k' := ⟨h.ok,by have := h.k; omega,by have := h.r; omega⟩
theorem E.B.low {e : E} {k : Nat} (h : e.B k) (hk : k <= 2000) : e.Low := ⟨by have := h.k; omega,by have := h.r; omega⟩
theorem E.B.sy {e : E} {k : Nat} (h : e.B k) {t : List Int} (g : GoodT t) {s : Nat} (hs : s < t.length) : (e.sy s t).B (k + 1) := by
 have := E.sy_same8 e s t
 exact ⟨E.sy_ok8 h.ok g hs,by have := h.k; omega,by have := h.r; omega⟩
theorem E.B.un {e : E} {k : Nat} (h : e.B k) {v ft : Int} (v0 : 0 <= v) (v1 : v < ft) (h1 : ft <= 300) : (e.un v ft).B (k + 1) := by
 obtain ⟨a1,a2,a3,a4,a5⟩ := un_tell8 h.ok v0 v1 h1
 exact ⟨a1,by have := h.k; omega,by have := h.r; omega⟩
theorem E.B.bt {e : E} {k : Nat} (h : e.B k) {v : Int} (v0 : 0 <= v) (v1 : v <= 1) : (e.bt v 1).B (k + 1) :=
 ⟨E.bt_ok h.ok v0 (by omega),by have := h.k; have := (E.bt_lim (N:=0) (e:=e) (v:=v) (n:=1)).1; omega,by have := h.r; have := (E.bt_lim (N:=0) (e:=e) (v:=v) (n:=1)).2; omega⟩
theorem E.B.new : E.new.B 0 := ⟨E.new_ok,by decide,by decide⟩
def twoE : List Int -> E -> E
 | [],e => e
 | x :: r,e => twoE r (e.sy (x + 4).toNat (icdfT 4))
theorem twoE_B : ∀ (l : List Int) (e : E) (k : Nat),e.B k -> (∀ x ∈ l,-4 <= x /\ x <= 4) -> (twoE l e).B (k + l.length)
 | [],e,k,h,_ => h
 | x :: r,e,k,h,hx => by
  have := hx x (by simp)
  have := twoE_B r _ (k + 1) (h.sy g4 (s:=(x + 4).toNat) (by rw [len4]; omega)) (fun y hy => hx y (by simp [hy]))
  simp only [twoE,List.length_cons]
  exact this.mono (by omega)
section
variable {N : Nat}
theorem wtwo_loop (hN : 30000 <= N) {l : List Int} (hl : l.length <= 40) (hx : ∀ x ∈ l,-4 <= x /\ x <= 4) : ∀ (nn i : Nat) (e : E) (k : Nat),e.B k -> k <= 100 + i -> i <= l.length -> l.length - i < nn ->
  Rc.spwritef.loop7 N nn (l.length : Int) l (i : Int) e.val e.rng e.r e.count e.told e.bits = some ((twoE (l.drop i) e).val,(twoE (l.drop i) e).rng,((twoE (l.drop i) e).r : Int),(twoE (l.drop i) e).count,(twoE (l.drop i) e).told,(twoE (l.drop i) e).bits)
 | 0,i,e,k,_,_,_,h => by omega
 | nn + 1,i,e,k,h,hk,hi,hn => by
  unfold Rc.spwritef.loop7
  simp only [br_dec,chkL_same,chkI_same]
  by_cases c : i < l.length
  ·have hm : l.getD i 0 ∈ l := by rw [List.getD_eq_getElem?_getD,List.getElem?_eq_getElem c]; exact List.getElem_mem c
   have hr := hx _ hm
   have a1 := h.sy g4 (s:=(l.getD i 0 + 4).toNat) (by rw [len4]; omega)
   have a2 := E.sy_same8 e (l.getD i 0 + 4).toNat (icdfT 4)
   have ih := wtwo_loop hN hl hx nn (i + 1) _ (k + 1) a1 (by omega) (by omega) (by omega)
   rw [a2.1,E.bits_of a2.1 a2.2.1,show ((i + 1 : Nat) : Int) = (i : Int) + 1 by omega] at ih
   rw [if_pos (by omega),chk_pos (by omega),Int.toNat_natCast,ticdf_F,obind_of,i64 (x:=l.getD i 0 + 4) (by omega) (by omega),(esymbol_F h.ok ((h.low (by omega)).lim hN) (l.getD i 0 + 4) (icdfT 4)).1 ⟨g4,by omega,by rw [len4]; omega⟩,obind_of,i64 (x:=(i : Int) + 1) (by omega) (by omega),drop_cons c]
   exact ih
  ·rw [if_neg (by omega),List.drop_eq_nil_of_le (by omega)]
   rfl
def gfE (g : Int) (e : E) : E := (e.sy (g / 8).toNat (icdfT 1)).un (g % 8) 8
theorem gfE_B {g : Int} (h0 : 0 <= g) (h1 : g <= 63) {e : E} {k : Nat} (h : e.B k) : (gfE g e).B (k + 2) :=
 (h.sy g1 (s:=(g / 8).toNat) (by rw [len1]; omega)).un (by omega) (by omega) (by omega)
theorem gwritefirst_W (hN : 30000 <= N) {g : Int} (h0 : 0 <= g) (h1 : g <= 63) {e : E} {k : Nat} (h : e.B k) (hk : k <= 1000) :
  Rc.gwritefirst.F N g e.val e.rng e.r e.count e.told e.bits = some (0,(gfE g e).val,(gfE g e).rng,((gfE g e).r : Int),(gfE g e).count,(gfE g e).told,(gfE g e).bits) := by
 unfold Rc.gwritefirst.F
 simp only [br_dec,br_bne]
 have a1 := h.sy g1 (s:=(g / 8).toNat) (by rw [len1]; omega)
 have a2 := E.sy_same8 e (g / 8).toNat (icdfT 1)
 have hbits : (e.sy (g / 8).toNat (icdfT 1)).bits = e.bits := E.bits_of a2.1 a2.2.1
 rw [if_neg (by omega),if_neg (by omega),ticdf_F,obind_of,tdiv_ediv (by omega),i64 (x:=g / 8) (by omega) (by omega),(esymbol_F h.ok ((h.low (by omega)).lim hN) (g / 8) (icdfT 1)).1 ⟨g1,by omega,by rw [len1]; omega⟩,obind_of]
 simp only [if_true]
 have hu := euint_F (N:=N) a1.ok ((a1.low (by omega)).lim hN) (by have := a1.k; omega) (g % 8) 8
 rw [a2.1,hbits] at hu
 rw [show g.tmod 8 = g % 8 by rw [Int.tmod_eq_emod_of_nonneg (by omega)],hu,if_pos (by omega),obind_of]
 rfl
def gnV (was g : Int) : Int := c63 was + c8 (c63 g - c63 was)
def gnE (was g : Int) (e : E) : E := e.sy (c8 (c63 g - c63 was) + 8).toNat (icdfT 2)
theorem gwritenext_W (hN : 30000 <= N) (g was : Int) {e : E} {k : Nat} (h : e.B k) (hk : k <= 1000) :
  Rc.gwritenext.F N g was e.val e.rng e.r e.count e.told e.bits = some (gnV was g,0,(gnE was g e).val,(gnE was g e).rng,((gnE was g e).r : Int),(gnE was g e).count,(gnE was g e).bits,(gnE was g e).told) := by
 have hw := c63_range was
 have e1 : Rc.gwritenext.F N g was e.val e.rng e.r e.count e.told e.bits = Rc.gwritenext.F N g (c63 was) e.val e.rng e.r e.count e.told e.bits := by
  unfold Rc.gwritenext.F
  rw [gclamp_F g,obind_of,obind_of,gclamp_F was,obind_of,gclamp_F (c63 was),obind_of,c63_of hw.1 hw.2]
 have a2 := E.sy_same8 e (c8 (c63 g - c63 was) + 8).toNat (icdfT 2)
 rw [e1,gwritenext_F h.ok (h.low (by omega)) hN g hw.1 hw.2]
 unfold gnE gnV
 rw [a2.1,E.bits_of a2.1 a2.2.1]
theorem gnE_B (was g : Int) {e : E} {k : Nat} (h : e.B k) : (gnE was g e).B (k + 1) := by
 have := c8_range (c63 g - c63 was)
 exact h.sy g2 (s:=(c8 (c63 g - c63 was) + 8).toNat) (by rw [len2]; omega)
theorem gnV_range (was g : Int) : 0 <= gnV was g /\ gnV was g <= 63 := by
 have := c63_range was
 exact st_range this.1 this.2
def gsE : List Int -> Bool -> Int -> E -> List Int -> E × List Int
 | [],_,_,e,o => (e,o)
 | g :: r,f,was,e,o => if f = true then gsE r false g (gfE g e) (o ++ [g]) else gsE r false (gnV was g) (gnE was g e) (o ++ [gnV was g])
theorem gsE_B : ∀ (l : List Int) (f : Bool) (was : Int) (e : E) (o : List Int) (k : Nat),e.B k -> (∀ x ∈ l,0 <= x /\ x <= 63) -> (gsE l f was e o).1.B (k + 2 * l.length) /\ (gsE l f was e o).2.length = o.length + l.length /\ (gsE l f was e o).2.take o.length = o
 | [],f,was,e,o,k,h,_ => ⟨h,rfl,by simp [gsE]⟩
 | g :: r,f,was,e,o,k,h,hx => by
  have hg := hx g (by simp)
  have hr : ∀ x ∈ r,0 <= x /\ x <= 63 := fun x hx' => hx x (by simp [hx'])
  have tk : ∀ (O o : List Int) (x : Int),O.take (o ++ [x]).length = o ++ [x] -> O.take o.length = o := fun O o x hh => by
   have h2 := congrArg (List.take o.length) hh
   rw [List.take_take,Nat.min_eq_left (by simp),List.take_left'] at h2
   ·exact h2
   ·rfl
  simp only [gsE,List.length_cons]
  split
  ·obtain ⟨a1,a2,a3⟩ := gsE_B r false g _ (o ++ [g]) (k + 2) (gfE_B hg.1 hg.2 h) hr
   exact ⟨a1.mono (by omega),by rw [a2]; simp; omega,tk _ _ _ a3⟩
  ·obtain ⟨a1,a2,a3⟩ := gsE_B r false (gnV was g) _ (o ++ [gnV was g]) (k + 1) (gnE_B was g h) hr
   exact ⟨a1.mono (by omega),by rw [a2]; simp; omega,tk _ _ _ a3⟩
theorem gsE_first (l : List Int) (was : Int) (e : E) {k : Nat} (h : e.B k) (hx : ∀ x ∈ l,0 <= x /\ x <= 63) (hl : 0 < l.length) : (gsE l true was e []).2.getD 0 0 = l.getD 0 0 := by
 match l,hl with
 | g :: r,_ =>
  have hg := hx g (by simp)
  obtain ⟨a1,a2,a3⟩ := gsE_B r false g (gfE g e) ([] ++ [g]) (k + 2) (gfE_B hg.1 hg.2 h) (fun x hx' => hx x (by simp [hx']))
  simp only [gsE,if_true]
  have e1 : (gsE r false g (gfE g e) ([] ++ [g])).2.getD 0 0 = ((gsE r false g (gfE g e) ([] ++ [g])).2.take 1).getD 0 0 := by
   rw [List.getD_eq_getElem?_getD,List.getD_eq_getElem?_getD,List.getElem?_take_of_lt (by omega)]
  rw [e1]
  simp only [List.nil_append,List.length_singleton] at a3
  rw [List.nil_append,a3]
  rfl
theorem wgains_loop (hN : 30000 <= N) {l : List Int} (hl : l.length <= 40) (hx : ∀ x ∈ l,0 <= x /\ x <= 63) {c1 c2 c3 d1 d2 d3 : Int} {f f2 : Bool} {t1 g1 p1 t2 p2 : List Int} {q1 q2 : List (List Int)} : ∀ (nn i : Nat) (e : E) (k : Nat) (was : Int) (o : List Int),e.B k -> k <= 100 + 2 * i -> i <= l.length -> o.length = i -> l.length - i < nn ->
  Rc.spwritef.loop16 N nn (l.length : Int) c1 c2 c3 d1 d2 d3 f f2 l t1 g1 p1 t2 p2 q1 q2 was (i : Int) e.val e.rng e.r e.count e.told e.bits o = some ((gsE (l.drop i) (decide (i = 0) && f) was e o).1.val,(gsE (l.drop i) (decide (i = 0) && f) was e o).1.rng,((gsE (l.drop i) (decide (i = 0) && f) was e o).1.r : Int),(gsE (l.drop i) (decide (i = 0) && f) was e o).1.count,(gsE (l.drop i) (decide (i = 0) && f) was e o).1.told,(gsE (l.drop i) (decide (i = 0) && f) was e o).1.bits,(gsE (l.drop i) (decide (i = 0) && f) was e o).2)
 | 0,i,e,k,was,o,_,_,_,_,h => by omega
 | nn + 1,i,e,k,was,o,h,hk,hi,ho,hn => by
  unfold Rc.spwritef.loop16
  simp only [br_dec,br_beq,chkL_same,chkI_same,chkB_same,chkR_same]
  by_cases c : i < l.length
  ·have hm : l.getD i 0 ∈ l := by rw [List.getD_eq_getElem?_getD,List.getElem?_eq_getElem c]; exact List.getElem_mem c
   have hr := hx _ hm
   have e0 : (decide (i + 1 = 0) && f) = false := by simp
   have ih := fun e' k' w' o' a b c' => wgains_loop hN hl hx (c1:=c1) (c2:=c2) (c3:=c3) (d1:=d1) (d2:=d2) (d3:=d3) (f:=f) (f2:=f2) (t1:=t1) (g1:=g1) (p1:=p1) (t2:=t2) (p2:=p2) (q1:=q1) (q2:=q2) nn (i + 1) e' k' w' o' a b (by omega) c' (by omega)
   simp only [e0,show ((i + 1 : Nat) : Int) = (i : Int) + 1 by omega] at ih
   have nx := ih _ (k + 1) (gnV was (l.getD i 0)) (o ++ [gnV was (l.getD i 0)]) (gnE_B was (l.getD i 0) h) (by omega) (by simp; omega)
   rw [if_pos (by omega),chk_pos (by omega),Int.toNat_natCast,i64 (x:=(i : Int) + 1) (by omega) (by omega),drop_cons c]
   simp only [gsE]
   by_cases h0 : i = 0
   ·rw [if_pos (show (i : Int) = 0 by omega)]
    simp only [h0,decide_true,Bool.true_and]
    rw [<- h0]
    cases f with
    | true =>
     rw [br_true,if_pos rfl,gwritefirst_W hN hr.1 hr.2 h (by omega),obind_of]
     simp only
     rw [chk_pos (by simp; omega)]
     exact ih _ (k + 2) _ _ (gfE_B hr.1 hr.2 h) (by omega) (by simp; omega)
    | false =>
     rw [br_false,if_neg (by simp),gwritenext_W hN _ was h (by omega),obind_of]
     simp only
     rw [chk_pos (by simp; omega)]
     exact nx
   ·rw [if_neg (show ¬ (i : Int) = 0 by omega)]
    simp only [h0,decide_false,Bool.false_and]
    rw [if_neg (by simp),gwritenext_W hN _ was h (by omega),obind_of]
    simp only
    rw [chk_pos (by simp; omega)]
    exact nx
  ·rw [if_neg (by omega),List.drop_eq_nil_of_le (by omega)]
   rfl
def ltE (rate : Int) : List (List Int) -> E -> E
 | [],e => e
 | r :: l,e => ltE rate l (elt e rate (r.headD 0) (r.tail.headD 0))
theorem elt_B {e : E} {k : Nat} (h : e.B k) {rate lag taps : Int} (hm : mayL rate lag taps) : (elt e rate lag taps).B (k + 2) := by
 obtain ⟨m1,m2,m3,m4,m5⟩ := hm
 have hl8 := lags_of rate
 exact (h.un (v:=lag - lo8 rate) (ft:=hi8 rate - lo8 rate + 1) (by omega) (by omega) (by omega)).sy g6 (s:=taps.toNat) (by rw [len6]; omega)
theorem gwriteltp_W (hN : 30000 <= N) {e : E} {k : Nat} (h : e.B k) (hk : k <= 1000) {rate lag taps : Int} (hm : mayL rate lag taps) :
  Rc.gwriteltp.F N rate lag taps e.val e.rng e.r e.count e.told e.bits = some (0,(elt e rate lag taps).val,(elt e rate lag taps).rng,((elt e rate lag taps).r : Int),(elt e rate lag taps).count,(elt e rate lag taps).told,(elt e rate lag taps).bits) := by
 obtain ⟨m1,m2,m3,m4,m5⟩ := hm
 have hl8 := lags_of rate
 have a1 := h.un (v:=lag - lo8 rate) (ft:=hi8 rate - lo8 rate + 1) (by omega) (by omega) (by omega)
 have b2 := E.sy_same8 (e.un (lag - lo8 rate) (hi8 rate - lo8 rate + 1)) taps.toNat (icdfT 6)
 have ek := h.k
 unfold Rc.gwriteltp.F
 simp only [br_dec,br_bne,br_beq,chkI_same]
 rw [glags_F,obind_of]
 simp only
 rw [if_neg (by omega),if_neg (by omega),if_neg (by omega),if_neg (by omega)]
 unfold Rc.tfilters.F
 rw [obind_of,if_neg (show ¬ taps >= (8 : Int) by omega),i64 (x:=lag - lo8 rate) (by omega) (by omega),i64 (x:=hi8 rate - lo8 rate) (by omega) (by omega),i64 (x:=hi8 rate - lo8 rate + 1) (by omega) (by omega),euint_F h.ok ((h.low (by omega)).lim hN) (by omega),if_pos (by omega),obind_of]
 simp only [if_true]
 rw [ticdf_F,obind_of,(esymbol_F a1.ok ((a1.low (by omega)).lim hN) taps (icdfT 6)).1 ⟨g6,by omega,by rw [len6]; omega⟩,obind_of]
 unfold elt
 rw [b2.1,E.bits_of b2.1 b2.2.1]
theorem ltE_B {rate : Int} : ∀ (l : List (List Int)) (e : E) (k : Nat),e.B k -> (∀ r ∈ l,mayL rate (r.headD 0) (r.tail.headD 0)) -> (ltE rate l e).B (k + 2 * l.length)
 | [],e,k,h,_ => h
 | r :: l,e,k,h,hx => by
  have := ltE_B l _ (k + 2) (elt_B h (hx r (by simp))) (fun y hy => hx y (by simp [hy]))
  simp only [ltE,List.length_cons]
  exact this.mono (by omega)
theorem wltps_loop (hN : 30000 <= N) {rate : Int} {l : List (List Int)} (hl : l.length <= 40) (hx : ∀ r ∈ l,mayL rate (r.headD 0) (r.tail.headD 0)) : ∀ (nn i : Nat) (e : E) (k : Nat),e.B k -> k <= 200 + 2 * i -> i <= l.length -> l.length - i < nn ->
  Rc.spwritef.loop25 N nn rate (l.length : Int) l (i : Int) e.val e.rng e.r e.count e.told e.bits = some ((ltE rate (l.drop i) e).val,(ltE rate (l.drop i) e).rng,((ltE rate (l.drop i) e).r : Int),(ltE rate (l.drop i) e).count,(ltE rate (l.drop i) e).told,(ltE rate (l.drop i) e).bits)
 | 0,i,e,k,_,_,_,h => by omega
 | nn + 1,i,e,k,h,hk,hi,hn => by
  unfold Rc.spwritef.loop25
  simp only [br_dec,chkR_same,chkI_same]
  by_cases c : i < l.length
  ·have hm : l.getD i [] ∈ l := by rw [List.getD_eq_getElem?_getD,List.getElem?_eq_getElem c]; exact List.getElem_mem c
   have hr := hx _ hm
   have ih := wltps_loop hN hl hx nn (i + 1) _ (k + 2) (elt_B h hr) (by omega) (by omega) (by omega)
   rw [show ((i + 1 : Nat) : Int) = (i : Int) + 1 by omega] at ih
   rw [if_pos (by omega),chk_pos (by omega),Int.toNat_natCast,gwriteltp_W hN h (by omega) hr,obind_of,i64 (x:=(i : Int) + 1) (by omega) (by omega),getM_drop c]
   exact ih
  ·rw [if_neg (by omega),List.drop_eq_nil_of_le (by omega)]
   rfl
theorem write9_W (hN : 30000 <= N) {l : List Int} {e : E} {k : Nat} (h : e.B k) (hk : k <= 200) (g : goodB l = true) :
  Rc.write9.F N e.val e.rng e.r e.count l e.told e.bits = some (0,(wrE (l.length / 16) l e).val,(wrE (l.length / 16) l e).rng,((wrE (l.length / 16) l e).r : Int),(wrE (l.length / 16) l e).count,(wrE (l.length / 16) l e).told,(wrE (l.length / 16) l e).bits) := by
 unfold Rc.write9.F
 rw [good9_F l hN,obind_of,br_not,if_pos g]
 have g' := g
 unfold goodB mayB at g'
 simp only [Bool.and_eq_true,decide_eq_true_eq] at g'
 obtain ⟨⟨g1,g2,g3⟩,g4⟩ := g'
 have hk' := h.k
 have hr := h.r
 obtain ⟨s,hs⟩ := write9_loop (N:=N) (ev:=e.val) (er:=e.rng) (erb:=(e.r : Int)) (ec:=e.count) (el:=l) (et:=e.told) (ew:=e.bits) hN g2 N (l.length / 16) 0 e 0 h.ok (by omega) (by omega) (by omega) (by rwa [List.drop_zero]) (by omega)
 rw [show ((0 : Nat) : Int) = 0 from rfl,List.drop_zero] at hs
 rw [hs,osum_inl]
def wf14 (rate was : Int) (fresh : Bool) (kind one btw : Int) (two gains pulses : List Int) (ltps : List (List Int)) : E × List Int :=
 let e1 := E.new.bt (if fresh then 1 else 0) 1
 let e3 := (e1.sy kind.toNat (icdfT 0)).sy one.toNat (icdfT 3)
 let e5 := (twoE two e3).un btw 5
 let G := gsE gains fresh was e5 []
 let e7 := ltE rate ltps G.1
 (if kind = 0 then e7 else wrE (pulses.length / 16) pulses e7,G.2)
end
end Go.Pl
/-
 Layer 14: a frame is written as a whole.
 Conditions: none.
-/
namespace Go.Pl
open Go.Eng Go.Proofs
section
variable {N : Nat}
theorem esymbol_W (hN : 30000 <= N) {e : E} {k : Nat} (h : e.B k) (hk : k <= 1000) {s : Int} {t : List Int} (g : GoodT t) (s0 : 0 <= s) (s1 : s < t.length) :
  Rc.esymbol.F N s e.val e.rng e.r e.count t e.told e.bits = some (0,(e.sy s.toNat t).val,(e.sy s.toNat t).rng,((e.sy s.toNat t).r : Int),(e.sy s.toNat t).count,(e.sy s.toNat t).bits,(e.sy s.toNat t).told) := by
 have a2 := E.sy_same8 e s.toNat t
 rw [(esymbol_F h.ok ((h.low (by omega)).lim hN) s t).1 ⟨g,s0,s1⟩,a2.1,E.bits_of a2.1 a2.2.1]
theorem spbit_F (b : Bool) : Rc.spbit.F N b = some (if b then 1 else 0) := by cases b <;> rfl
structure GoodW (rate : Int) (kind one btw : Int) (two gains pulses : List Int) (ltps : List (List Int)) : Prop where
 kd : 0 <= kind /\ kind <= 2
 on : 0 <= one /\ one <= 15
 tw : two.length <= 16 /\ ∀ x ∈ two,-4 <= x /\ x <= 4
 bt : 0 <= btw /\ btw <= 4
 ga : gains.length <= 4 /\ ∀ x ∈ gains,0 <= x /\ x <= 63
 lt : ltps.length <= 4 /\ ∀ r ∈ ltps,mayL rate (r.headD 0) (r.tail.headD 0)
 pu : kind ≠ 0 -> goodB pulses = true
theorem GoodF.w {rate ms kind one btw : Int} {two gains pulses : List Int} {ltps : List (List Int)} (g : GoodF rate ms kind one btw two gains pulses ltps) : GoodW rate kind one btw two gains pulses ltps := by
 have ho := ord14_le rate
 obtain ⟨m1,m2,m3,m4,m5,m6,m7,m8⟩ := may_facts g.may
 obtain ⟨f0,f1,z0,l0,l1,l2,l3⟩ := lw14_of g.may.1
 have hl8 := lags_of rate
 refine ⟨g.kd,g.on,⟨by have := g.tw.1; omega,g.tw.2⟩,g.bt,⟨by have := g.ga.1; omega,g.ga.2⟩,?_,?_⟩
 ·have := g.lt
  split at this
  ·refine ⟨by omega,fun r hr => ?_⟩
   have := this.2 r hr
   exact ⟨by omega,this.1,this.2.1,this.2.2.1,this.2.2.2⟩
  ·rw [this]
   exact ⟨by simp,fun r hr => by simp at hr⟩
 ·intro hk
  have := g.pu
  rw [if_neg hk] at this
  exact this.2
theorem wf14_steps {rate kind one btw : Int} {was : Int} {fresh : Bool} {two gains pulses : List Int} {ltps : List (List Int)} (g : GoodW rate kind one btw two gains pulses ltps) :
  (E.new.bt (if fresh then 1 else 0) 1).B 1 /\ ((E.new.bt (if fresh then 1 else 0) 1).sy kind.toNat (icdfT 0)).B 2 /\ (((E.new.bt (if fresh then 1 else 0) 1).sy kind.toNat (icdfT 0)).sy one.toNat (icdfT 3)).B 3 /\
  (twoE two (((E.new.bt (if fresh then 1 else 0) 1).sy kind.toNat (icdfT 0)).sy one.toNat (icdfT 3))).B 19 /\
  ((twoE two (((E.new.bt (if fresh then 1 else 0) 1).sy kind.toNat (icdfT 0)).sy one.toNat (icdfT 3))).un btw 5).B 20 /\
  (gsE gains fresh was ((twoE two (((E.new.bt (if fresh then 1 else 0) 1).sy kind.toNat (icdfT 0)).sy one.toNat (icdfT 3))).un btw 5) []).1.B 28 /\
  (ltE rate ltps (gsE gains fresh was ((twoE two (((E.new.bt (if fresh then 1 else 0) 1).sy kind.toNat (icdfT 0)).sy one.toNat (icdfT 3))).un btw 5) []).1).B 36 := by
 have b1 : (E.new.bt (if fresh then 1 else 0) 1).B 1 := E.B.new.bt (by split <;> omega) (by split <;> omega)
 have b2 := b1.sy g0 (s:=kind.toNat) (by rw [len0]; have := g.kd; omega)
 have b3 := b2.sy g3 (s:=one.toNat) (by rw [len3]; have := g.on; omega)
 have b4 := (twoE_B two _ _ b3 g.tw.2).mono (k' := 19) (by have := g.tw.1; omega)
 have b5 := b4.un (v:=btw) (ft:=5) g.bt.1 (by have := g.bt.2; omega) (by omega)
 have b6 := (gsE_B gains fresh was _ [] _ b5 g.ga.2).1.mono (k' := 28) (by have := g.ga.1; omega)
 have b7 := (ltE_B (rate:=rate) ltps _ _ b6 g.lt.2).mono (k' := 36) (by have := g.lt.1; omega)
 exact ⟨b1,b2,b3,b4,b5,b6,b7⟩
theorem spwritef_not {rate ms was kind one btw val rng rb count : Int} {fresh : Bool} {two gains pulses told raw : List Int} {ltps : List (List Int)} (hN : 30000 <= N) (h3 : ltps.length <= 1000) (g : ¬ GoodF rate ms kind one btw two gains pulses ltps) :
  Rc.spwritef.F N rate ms was kind one btw val rng rb count fresh two gains pulses told raw ltps = some (0,0,0,1,val,rng,rb,count,false,[],[],[],told,raw,[]) := by
 unfold Rc.spwritef.F
 rw [(spgood_F hN (by omega)).2 g (by omega),obind_of]
 rfl
theorem spwritef_F {rate ms was kind one btw : Int} {fresh : Bool} {two gains pulses : List Int} {ltps : List (List Int)} (hN : 30000 <= N) (g : GoodF rate ms kind one btw two gains pulses ltps) {W : E} {G : List Int} (hW : wf14 rate was fresh kind one btw two gains pulses ltps = (W,G)) :
  Rc.spwritef.F N rate ms was kind one btw E.new.val E.new.rng E.new.r E.new.count fresh two gains pulses E.new.told E.new.bits ltps = some (kind,one,btw,0,W.val,W.rng,(W.r : Int),W.count,fresh,two,G,pulses,W.told,W.bits,ltps) := by
 have gw := g.w
 obtain ⟨b1,b2,b3,b4,b5,b6,b7⟩ := wf14_steps (was:=was) (fresh:=fresh) gw
 have hk := gw.kd
 have ho := gw.on
 have hb := gw.bt
 have hp3 : pulses.length <= 1000 := by
  have := g.pu
  split at this
  ·rw [this]; simp
  ·have h2 := this.2
   unfold goodB mayB at h2
   simp only [Bool.and_eq_true,decide_eq_true_eq] at h2
   omega
 have hg0 := (spgood_F hN (fresh:=fresh) (show ltps.length <= 1000000 by have := gw.lt.1; omega)).1 g
 have q1 := (ebits_F (N:=N) E.new_ok (by decide) (by decide) (by omega) (if fresh then 1 else 0) 1 (val:=E.new.val) (rng:=E.new.rng) (told:=E.new.told)).trans (congrArg some (if_pos ⟨by omega,by omega,by split <;> omega,by split <;> decide⟩))
 have q2 := esymbol_W hN b1 (by omega) (s:=kind) g0 hk.1 (by rw [len0]; omega)
 have q3 := esymbol_W hN b2 (by omega) (s:=one) g3 ho.1 (by rw [len3]; omega)
 have q4 := wtwo_loop hN (l:=two) (by have := gw.tw.1; omega) gw.tw.2 N 0 _ 3 b3 (by omega) (by omega) (by have := gw.tw.1; omega)
 rw [show ((0 : Nat) : Int) = 0 from rfl,List.drop_zero] at q4
 have q5 := (euint_F (N:=N) b4.ok ((b4.low (by omega)).lim hN) (by have := b4.k; omega) btw 5).trans (congrArg some (if_pos ⟨by omega,by omega,by omega,by omega⟩))
 have q6 := wgains_loop hN (l:=gains) (by have := gw.ga.1; omega) gw.ga.2 (c1:=kind) (c2:=one) (c3:=btw) (d1:=kind) (d2:=one) (d3:=btw) (f:=fresh) (f2:=fresh) (t1:=two) (g1:=gains) (p1:=pulses) (t2:=[] ++ two) (p2:=pulses) (q1:=ltps) (q2:=ltps) N 0 _ 20 was [] b5 (by omega) (by omega) rfl (by have := gw.ga.1; omega)
 rw [show ((0 : Nat) : Int) = 0 from rfl,List.drop_zero,show (decide ((0 : Nat) = 0) && fresh) = fresh by simp] at q6
 have q7 := wltps_loop hN (rate:=rate) (l:=ltps) (by have := gw.lt.1; omega) gw.lt.2 N 0 _ 28 b6 (by omega) (by omega) (by have := gw.lt.1; omega)
 rw [show ((0 : Nat) : Int) = 0 from rfl,List.drop_zero] at q7
 unfold wf14 at hW
 simp only at hW
 generalize (E.new.bt (if fresh then 1 else 0) 1).sy kind.toNat (icdfT 0) = e2 at *
 generalize e2.sy one.toNat (icdfT 3) = e3 at *
 generalize twoE two e3 = e4 at *
 generalize e4.un btw 5 = e5 at *
 generalize gsE gains fresh was e5 [] = G6 at *
 generalize ltE rate ltps G6.1 = e7 at *
 unfold Rc.spwritef.F
 simp only [chkI_same,chkL_same,br_bne]
 rw [hg0,obind_of,br_not,if_pos rfl,spbit_F,obind_of,q1,obind_of,ticdf_F,obind_of]
 refine obind_step q2 ?_
 simp only
 rw [ticdf_F,obind_of]
 refine obind_step q3 ?_
 simp only
 refine obind_step q4 ?_
 simp only
 refine obind_step q5 ?_
 simp only
 rw [chk_pos (by have := gw.tw.1; omega),chk_pos (by have := gw.lt.1; omega),chk_pos (by omega)]
 refine obind_step q6 ?_
 simp only
 refine obind_step q7 ?_
 simp only
 by_cases c : kind = 0
 ·rw [if_pos c]
  rw [if_pos c] at hW
  have e1 := congrArg Prod.fst hW
  have e2 := congrArg Prod.snd hW
  simp only at e1 e2
  rw [e1,e2,List.nil_append]
 ·rw [if_neg c]
  rw [if_neg c] at hW
  have e1 := congrArg Prod.fst hW
  have e2 := congrArg Prod.snd hW
  simp only at e1 e2
  refine obind_step (write9_W hN b7 (by omega) (gw.pu c)) ?_
  simp only
  rw [e1,e2,List.nil_append]
end
end Go.Pl
/-
 Layer 14: what is written is read.
 Conditions: none.
-/
namespace Go.Pl
open Go.Eng Go.Proofs
structure RS.At (b : List Int) (e : E) (s : RS) : Prop where
 q : s.q = e.rd b
 w : s.w.Ok
 a : s.w.At b e.r
 c : s.C = 1 + (e.r : Int)
 bad : s.bad = false
section
variable {b : List Int}
theorem RS.At.new (hb : Bytes b) : (RS.new b).At b E.new := ⟨(E.new_rd hb).symm,W.new_ok,⟨rfl,rfl⟩,rfl,rfl⟩
theorem at_bt (hb : Bytes b) {e : E} (h : e.Ok) {v : Int} (v0 : 0 <= v) (v1 : v <= 1) (hf : (e.bt v 1).Fit b) : e.Fit b /\ ∀ s : RS,s.At b e -> s.w.val b 1 = v /\ (s.bit b).At b (e.bt v 1) := by
 refine ⟨(E.bt_fit h v0 (by omega) hf).1,fun s hs => ?_⟩
 obtain ⟨b1,b2,b3,b4⟩ := E.bt_back hb h (n:=1) (by omega) v0 (by omega) hf hs.a
 exact ⟨b2,hs.q.trans b4.symm,W.next_ok hb hs.w (by omega),b3,by have := hs.c; have e1 : (e.bt v 1).r = e.r + 1 := rfl; simp only [RS.bit]; omega,hs.bad⟩
theorem at_sy (hb : Bytes b) {e : E} (h : e.Ok) {t : List Int} (g : GoodT t) {k : Nat} (hk : k < t.length) (hf : (e.sy k t).Fit b) : e.Fit b /\ ∀ s : RS,s.At b e -> s.q.sk t = k /\ (s.sy b t).At b (e.sy k t) := by
 obtain ⟨b1,b2,b3⟩ := E.sy_back hb h g hk hf
 have a2 := E.sy_same8 e k t
 refine ⟨b1,fun s hs => ?_⟩
 rw [<- hs.q] at b2 b3
 exact ⟨b2,b3.symm,hs.w,by rw [a2.1]; exact hs.a,by rw [a2.1]; exact hs.c,hs.bad⟩
theorem at_un (hb : Bytes b) {e : E} (h : e.Ok) {v ft : Int} (v0 : 0 <= v) (v1 : v < ft) (f0 : 1 < ft) (f1 : ft <= 1000) (hf : (e.un v ft).Fit b) : e.Fit b /\ ∀ s : RS,s.At b e -> s.uv b ft = v /\ (s.un b ft).At b (e.un v ft) := by
 by_cases c : ft <= 256
 ·obtain ⟨u1,u2,u3,u4⟩ := E.us_back hb h v0 v1 f0 c hf
  refine ⟨u1,fun s hs => ?_⟩
  rw [<- hs.q] at u2 u3
  unfold RS.uv RS.un
  simp only [if_pos c]
  exact ⟨u2,u3.symm,hs.w,by rw [u4]; exact hs.a,by rw [u4]; exact hs.c,hs.bad⟩
 ·have fit : e.Fit b := by
   have eu : e.un v ft = (e.tk (v / 2 ^ ub ft) (v / 2 ^ ub ft + 1) (uf ft)).bt (v % 2 ^ ub ft) (ub ft) := by unfold E.un; rw [if_neg (by omega),if_neg (by omega)]
   rw [eu] at hf
   obtain ⟨p,q0,q1⟩ := ug_place v0 v1 (by omega) (by omega)
   exact E.tk_fit hb h p (E.bt_fit (E.tk_ok h p) (Int.emod_nonneg _ (by have := p2pos (ub ft); omega)) (Int.emod_lt_of_pos _ (p2pos _)) hf).1
  refine ⟨fit,fun s hs => ?_⟩
  obtain ⟨u1,u2,u3,u4,u5⟩ := E.ug_back hb h v0 v1 (by omega) (by omega) hf hs.a
  obtain ⟨b0,b1,_⟩ := ub_range (ft:=ft) (by omega) (by omega)
  rw [<- hs.q] at u2 u3
  unfold RS.uv RS.un
  simp only [if_neg c,u2]
  refine ⟨by rw [if_neg (by omega)],u3.symm,W.next_ok hb hs.w (by omega),u4,by rw [u5]; have := hs.c; simp only; omega,?_⟩
  simp only
  rw [hs.bad,decide_eq_false (by omega)]
  rfl
theorem two_back (hb : Bytes b) : ∀ (l : List Int) (e : E),e.Ok -> (∀ x ∈ l,-4 <= x /\ x <= 4) -> (twoE l e).Fit b -> e.Fit b /\ ∀ (s : RS) (o : List Int),s.At b e -> (two14 b l.length s o).2 = o ++ l /\ (two14 b l.length s o).1.At b (twoE l e)
 | [],e,h,_,hf => ⟨hf,fun s o hs => ⟨by simp [two14],hs⟩⟩
 | x :: r,e,h,hx,hf => by
  have h4 := hx x (by simp)
  obtain ⟨i1,i2⟩ := two_back hb r (e.sy (x + 4).toNat (icdfT 4)) (E.sy_ok8 h g4 (by rw [len4]; omega)) (fun y hy => hx y (by simp [hy])) hf
  obtain ⟨a1,a2⟩ := at_sy hb h g4 (k:=(x + 4).toNat) (by rw [len4]; omega) i1
  refine ⟨a1,fun s o hs => ?_⟩
  obtain ⟨v,hs'⟩ := a2 s hs
  obtain ⟨j1,j2⟩ := i2 _ (o ++ [(s.q.sk (icdfT 4) : Int) - 4]) hs'
  simp only [List.length_cons,two14,twoE]
  refine ⟨?_,j2⟩
  rw [j1,v,show (((x + 4).toNat : Nat) : Int) - 4 = x by omega]
  simp
theorem gs_back (hb : Bytes b) : ∀ (l : List Int) (f : Bool) (was : Int) (e : E) (o : List Int),e.Ok -> (∀ x ∈ l,0 <= x /\ x <= 63) -> (gsE l f was e o).1.Fit b -> e.Fit b /\ ∀ s : RS,s.At b e -> (gns14 b l.length f s was o).2 = (gsE l f was e o).2 /\ (gns14 b l.length f s was o).1.At b (gsE l f was e o).1
 | [],f,was,e,o,h,_,hf => ⟨hf,fun s hs => ⟨rfl,hs⟩⟩
 | g :: r,f,was,e,o,h,hx,hf => by
  have hg := hx g (by simp)
  have hr : ∀ x ∈ r,0 <= x /\ x <= 63 := fun x hx' => hx x (by simp [hx'])
  cases f with
  | true =>
   simp only [gsE,if_true] at hf ⊢
   have k1 := E.sy_ok8 h g1 (s:=(g / 8).toNat) (by rw [len1]; omega)
   obtain ⟨i1,i2⟩ := gs_back hb r false g (gfE g e) (o ++ [g]) (E.un_ok k1 (by omega) (by omega) (by omega)) hr hf
   obtain ⟨u1,u2⟩ := at_un hb k1 (v:=g % 8) (ft:=8) (by omega) (by omega) (by omega) (by omega) i1
   obtain ⟨a1,a2⟩ := at_sy hb h g1 (k:=(g / 8).toNat) (by rw [len1]; omega) u1
   refine ⟨a1,fun s hs => ?_⟩
   obtain ⟨v1,h1⟩ := a2 s hs
   obtain ⟨v2,h2⟩ := u2 _ h1
   have eg : (gn14 b true s was).1 = g := by
    unfold gn14
    simp only [if_true]
    have : (s.q.sy b (icdfT 1)).ch 8 = g % 8 := v2
    rw [this,v1]
    omega
   have es : (gn14 b true s was).2 = (s.sy b (icdfT 1)).un b 8 := rfl
   simp only [List.length_cons,gns14]
   rw [eg,es]
   exact i2 _ h2
  | false =>
   simp only [gsE,Bool.false_eq_true,if_false] at hf ⊢
   have hc := c8_range (c63 g - c63 was)
   have hv := gnV_range was g
   have k1 := E.sy_ok8 h g2 (s:=(c8 (c63 g - c63 was) + 8).toNat) (by rw [len2]; omega)
   obtain ⟨i1,i2⟩ := gs_back hb r false (gnV was g) (gnE was g e) (o ++ [gnV was g]) k1 hr hf
   obtain ⟨a1,a2⟩ := at_sy hb h g2 (k:=(c8 (c63 g - c63 was) + 8).toNat) (by rw [len2]; omega) i1
   refine ⟨a1,fun s hs => ?_⟩
   obtain ⟨v1,h1⟩ := a2 s hs
   have eg : (gn14 b false s was).1 = gnV was g := by
    unfold gn14
    simp only [Bool.false_eq_true,if_false]
    rw [v1,show c63 was + (((c8 (c63 g - c63 was) + 8).toNat : Nat) : Int) - 8 = gnV was g by unfold gnV; omega,c63_of hv.1 hv.2]
   have es : (gn14 b false s was).2 = s.sy b (icdfT 2) := rfl
   simp only [List.length_cons,gns14]
   rw [eg,es]
   exact i2 _ h1
theorem lt_back (hb : Bytes b) {rate : Int} : ∀ (l : List (List Int)) (e : E),e.Ok -> (∀ r ∈ l,mayL rate (r.headD 0) (r.tail.headD 0)) -> (ltE rate l e).Fit b -> e.Fit b /\ ∀ (s : RS) (o : List (List Int)),s.At b e ->
   (ltp14 b (lo8 rate) (lw14 rate) l.length s o).2.map (fun r => r.headD 0) = o.map (fun r => r.headD 0) ++ l.map (fun r => r.headD 0) /\ (ltp14 b (lo8 rate) (lw14 rate) l.length s o).2.map (fun r => r.tail.headD 0) = o.map (fun r => r.tail.headD 0) ++ l.map (fun r => r.tail.headD 0) /\ (ltp14 b (lo8 rate) (lw14 rate) l.length s o).1.At b (ltE rate l e)
 | [],e,h,_,hf => ⟨hf,fun s o hs => ⟨by simp [ltp14],by simp [ltp14],hs⟩⟩
 | r :: l,e,h,hx,hf => by
  obtain ⟨m1,m2,m3,m4,m5⟩ := hx r (by simp)
  have hl8 := lags_of rate
  have elw : hi8 rate - lo8 rate + 1 = lw14 rate := rfl
  have k1 := E.un_ok h (v:=r.headD 0 - lo8 rate) (ft:=hi8 rate - lo8 rate + 1) (by omega) (by omega) (by omega)
  have k2 := E.sy_ok8 k1 g6 (s:=(r.tail.headD 0).toNat) (by rw [len6]; omega)
  obtain ⟨i1,i2⟩ := lt_back hb l (elt e rate (r.headD 0) (r.tail.headD 0)) k2 (fun y hy => hx y (by simp [hy])) hf
  obtain ⟨a1,a2⟩ := at_sy hb k1 g6 (k:=(r.tail.headD 0).toNat) (by rw [len6]; omega) i1
  obtain ⟨u1,u2⟩ := at_un hb h (v:=r.headD 0 - lo8 rate) (ft:=hi8 rate - lo8 rate + 1) (by omega) (by omega) (by omega) (by omega) a1
  refine ⟨u1,fun s o hs => ?_⟩
  obtain ⟨v1,h1⟩ := u2 s hs
  obtain ⟨v2,h2⟩ := a2 _ h1
  rw [elw] at v1 v2 h2
  obtain ⟨j1,j2,j3⟩ := i2 _ (o ++ [[lo8 rate + s.uv b (lw14 rate),((s.un b (lw14 rate)).q.sk (icdfT 6) : Int)]]) h2
  simp only [List.length_cons,ltp14,ltE]
  refine ⟨?_,?_,j3⟩
  ·rw [j1,v1,show lo8 rate + (r.headD 0 - lo8 rate) = r.headD 0 by omega]
   simp
  ·rw [j2,v2,show (((r.tail.headD 0).toNat : Nat) : Int) = r.tail.headD 0 by omega]
   simp
theorem fr14_back (hb : Bytes b) {rate ms was kind one btw : Int} {fresh : Bool} {two gains pulses : List Int} {ltps : List (List Int)} (g : GoodF rate ms kind one btw two gains pulses ltps) {W : E} {G : List Int} (hW : wf14 rate was fresh kind one btw two gains pulses ltps = (W,G)) (hf : W.Fit b) :
  (fr14 b rate ms was (RS.new b)).fresh = fresh /\ (fr14 b rate ms was (RS.new b)).kind = kind /\ (fr14 b rate ms was (RS.new b)).one = one /\ (fr14 b rate ms was (RS.new b)).two = two /\ (fr14 b rate ms was (RS.new b)).btw = btw /\ (fr14 b rate ms was (RS.new b)).gains = G /\
  (fr14 b rate ms was (RS.new b)).ltps.map (fun r => r.headD 0) = ltps.map (fun r => r.headD 0) /\ (fr14 b rate ms was (RS.new b)).ltps.map (fun r => r.tail.headD 0) = ltps.map (fun r => r.tail.headD 0) /\ (fr14 b rate ms was (RS.new b)).pulses = pulses /\
  (fr14 b rate ms was (RS.new b)).s.q = W.rd b /\ (fr14 b rate ms was (RS.new b)).s.C = 1 + (W.r : Int) := by
 have gw := g.w
 obtain ⟨b1,b2,b3,b4,b5,b6,b7⟩ := wf14_steps (was:=was) (fresh:=fresh) gw
 have hkd := gw.kd
 have hon := gw.on
 have hbt := gw.bt
 obtain ⟨m1,m2,m3,m4,m5,m6,m7,m8⟩ := may_facts g.may
 have v0 : 0 <= (if fresh then (1 : Int) else 0) := by split <;> omega
 have v1 : (if fresh then (1 : Int) else 0) <= 1 := by split <;> omega
 have hv : ((if fresh then (1 : Int) else 0) == 1) = fresh := by cases fresh <;> rfl
 have e1 := congrArg Prod.fst hW
 have e2 := congrArg Prod.snd hW
 unfold wf14 at e1 e2
 simp only at e1 e2
 generalize (if fresh then (1 : Int) else 0) = vf at *
 -- from the last to the first
 have h7 : (ltE rate ltps (gsE gains fresh was ((twoE two (((E.new.bt vf 1).sy kind.toNat (icdfT 0)).sy one.toNat (icdfT 3))).un btw 5) []).1).Fit b /\ ∀ s : RS,s.At b (ltE rate ltps (gsE gains fresh was ((twoE two (((E.new.bt vf 1).sy kind.toNat (icdfT 0)).sy one.toNat (icdfT 3))).un btw 5) []).1) ->
   (if kind = 0 then [] else s.pl b (blk14 rate ms)) = pulses /\ (if kind = 0 then s else s.pu b (blk14 rate ms)).q = W.rd b /\ (if kind = 0 then s else s.pu b (blk14 rate ms)).C = 1 + (W.r : Int) := by
  by_cases c : kind = 0
  ·have gp := g.pu
   rw [if_pos c] at gp
   rw [if_pos c] at e1
   rw [e1]
   exact ⟨hf,fun s hs => by simp only [if_pos c]; exact ⟨gp.symm,hs.q,hs.c⟩⟩
  ·have gp := g.pu
   rw [if_neg c] at gp
   obtain ⟨gl,gg⟩ := gp
   rw [if_neg c] at e1
   have gg' := gg
   unfold goodB mayB at gg'
   simp only [Bool.and_eq_true,decide_eq_true_eq] at gg'
   rw [<- e1] at hf
   rw [show pulses.length / 16 = blk14 rate ms by omega] at hf e1 gg'
   obtain ⟨p1,p2⟩ := wrE_back hb (blk14 rate ms) pulses _ b7.ok gl gg'.2 hf
   refine ⟨p1,fun s hs => ?_⟩
   obtain ⟨w',p3⟩ := p2 s.w s.C [] hs.w hs.a
   rw [<- hs.q,e1] at p3
   simp only [if_neg c]
   unfold RS.pl RS.pu
   simp only [p3]
   refine ⟨rfl,trivial,?_⟩
   have := hs.c
   omega
 obtain ⟨f7,r7⟩ := h7
 obtain ⟨f6,r6⟩ := lt_back hb ltps _ b6.ok gw.lt.2 f7
 obtain ⟨f5,r5⟩ := gs_back hb gains fresh was _ [] b5.ok gw.ga.2 f6
 obtain ⟨f4,r4⟩ := at_un hb b4.ok (v:=btw) (ft:=5) (by omega) (by omega) (by omega) (by omega) f5
 obtain ⟨f3,r3⟩ := two_back hb two _ b3.ok gw.tw.2 f4
 obtain ⟨f2,r2⟩ := at_sy hb b2.ok g3 (k:=one.toNat) (by rw [len3]; omega) f3
 obtain ⟨f1,r1⟩ := at_sy hb b1.ok g0 (k:=kind.toNat) (by rw [len0]; omega) f2
 obtain ⟨f0,r0⟩ := at_bt hb E.new_ok v0 v1 f1
 -- from the first to the last
 obtain ⟨x0,s1⟩ := r0 _ (RS.At.new hb)
 obtain ⟨x1,s2⟩ := r1 _ s1
 obtain ⟨x2,s3⟩ := r2 _ s2
 obtain ⟨x3,s4⟩ := r3 _ [] s3
 obtain ⟨x4,s5⟩ := r4 _ s4
 obtain ⟨x5,s6⟩ := r5 _ s5
 rw [g.tw.1] at x3 s4 x4 s5 x5 s6
 rw [g.ga.1] at x5 s6
 have hL : ∀ (L : RS × List (List Int)),L = (if kind = 2 then ltp14 b (lo8 rate) (lw14 rate) (cnt14 ms) (gns14 b (cnt14 ms) fresh ((two14 b (ord14 rate) ((((RS.new b).bit b).sy b (icdfT 0)).sy b (icdfT 3)) []).1.un b 5) was []).1 [] else ((gns14 b (cnt14 ms) fresh ((two14 b (ord14 rate) ((((RS.new b).bit b).sy b (icdfT 0)).sy b (icdfT 3)) []).1.un b 5) was []).1,[])) ->
   L.2.map (fun r => r.headD 0) = ltps.map (fun r => r.headD 0) /\ L.2.map (fun r => r.tail.headD 0) = ltps.map (fun r => r.tail.headD 0) /\ L.1.At b (ltE rate ltps (gsE gains fresh was ((twoE two (((E.new.bt vf 1).sy kind.toNat (icdfT 0)).sy one.toNat (icdfT 3))).un btw 5) []).1) := by
  intro L hL
  have gl := g.lt
  by_cases c : kind = 2
  ·rw [if_pos c] at gl hL
   obtain ⟨y1,y2,y3⟩ := r6 _ [] s6
   rw [gl.1] at y1 y2 y3
   rw [hL]
   exact ⟨by simpa using y1,by simpa using y2,y3⟩
  ·rw [if_neg c] at gl hL
   rw [hL,gl]
   exact ⟨rfl,rfl,s6⟩
 have ek : (((RS.new b).bit b).q.sk (icdfT 0) : Int) = kind := by rw [x1]; omega
 have eo : ((((RS.new b).bit b).sy b (icdfT 0)).q.sk (icdfT 3) : Int) = one := by rw [x2]; omega
 have ef : ((RS.new b).w.val b 1 == 1) = fresh := by rw [x0]; exact hv
 unfold fr14
 simp only
 rw [ek,eo,ef]
 obtain ⟨z1,z2,z3⟩ := hL _ rfl
 obtain ⟨t1,t2,t3⟩ := r7 _ z3
 exact ⟨rfl,rfl,rfl,x3,x4,x5.trans e2,z1,z2,t1,t2,t3⟩
end
end Go.Pl
/-
 Layer 14: SpeechWrites.
 Conditions: none.
-/
namespace Go.Pl
open Go.Eng Go.Proofs
theorem br_no {Y : Type} {c : Bool} {t e r : Option Y} (h : c = false) (h2 : e = r) : br c t e = r := by rw [h]; exact h2
theorem br_yes {Y : Type} {c : Bool} {t e r : Option Y} (h : c = true) (h2 : t = r) : br c t e = r := by rw [h]; exact h2
theorem bne_self14 (x : Int) : (x != x) = false := by simp
theorem speechWrites_pure (fresh : Bool) (kind one : Int) (two : List Int) (btw : Int) (gains : List Int) (ltps : List (List Int)) (pulses : List Int) (rate ms was : Int) :
  ∃ N,Rc.speechWrites.F N fresh kind one two btw gains ltps pulses rate ms was = some true := by
 refine ⟨30000,?_⟩
 unfold Rc.speechWrites.F
 rw [awake14_F (by omega),obind_of]
 simp only [br_not,if_true,br_dec]
 by_cases k1 : pulses.length > 1000
 ·rw [if_pos (by omega)]
 rw [if_neg (by omega)]
 by_cases k2 : gains.length > 20
 ·rw [if_pos (by omega)]
 rw [if_neg (by omega)]
 by_cases k3 : ltps.length > 20
 ·rw [if_pos (by omega)]
 rw [if_neg (by omega)]
 by_cases k4 : two.length > 40
 ·rw [if_pos (by omega)]
 rw [if_neg (by omega),enew_F,obind_of]
 simp only
 have hN : 30000 <= 30000 := Nat.le_refl _
 by_cases g : GoodF rate ms kind one btw two gains pulses ltps
 ·obtain ⟨W,G,hW⟩ : ∃ W G,wf14 rate was fresh kind one btw two gains pulses ltps = (W,G) := ⟨_,_,rfl⟩
  obtain ⟨b1,b2,b3,b4,b5,b6,b7⟩ := wf14_steps (was:=was) (fresh:=fresh) g.w
  have hok : W.Ok /\ W.Low := by
   have e1 := congrArg Prod.fst hW
   unfold wf14 at e1
   simp only at e1
   rw [<- e1]
   split
   ·exact ⟨b7.ok,b7.low (by omega)⟩
   ·rename_i c
    have gp := g.pu
    rw [if_neg c] at gp
    obtain ⟨gl,gg⟩ := gp
    unfold goodB mayB at gg
    simp only [Bool.and_eq_true,decide_eq_true_eq] at gg
    obtain ⟨⟨g1,g2,g3⟩,g4⟩ := gg
    have := wrE_facts (pulses.length / 16) pulses _ b7.ok (by omega) g4
    have h1 := b7.k
    have h2 := b7.r
    exact ⟨this.1,by omega,by omega⟩
  have hG : G.length = gains.length /\ (fresh = true -> G.getD 0 0 = gains.getD 0 0) := by
   have e2 := congrArg Prod.snd hW
   unfold wf14 at e2
   simp only at e2
   rw [<- e2]
   refine ⟨?_,fun hf => ?_⟩
   ·rw [(gsE_B gains fresh was _ [] _ b5 g.w.ga.2).2.1]; simp
   ·subst hf
    have hc := (may_facts g.may).2.2.1
    have := g.ga.1
    exact gsE_first gains was _ b5 g.w.ga.2 (by omega)
  have gl : 0 < gains.length := by
   have hc := (may_facts g.may).2.2.1
   have := g.ga.1
   omega
  refine obind_step (spwritef_F hN g hW) ?_
  simp only
  refine obind_step (good14_F hN (by omega)) ?_
  refine obind_step ((spgood_F hN (by omega)).1 g) ?_
  rw [decide_eq_true g]
  rw [if_pos (show (true == true) = true from rfl),if_pos (show (true == ((0 : Int) == 0)) = true from rfl),if_pos rfl]
  refine obind_step (own14_F (by omega) (by omega)) ?_
  refine obind_step (own14_F (by omega) (by omega)) ?_
  simp only
  rw [if_pos (by simp)]
  refine br_no (bne_self14 _) ?_
  refine br_no (bne_self14 _) ?_
  rw [ints14_F _ _ (by omega) (by omega),obind_of,decide_eq_true rfl,if_pos rfl]
  refine br_no (bne_self14 _) ?_
  rw [ints14_F _ _ (by simp; omega) (by simp; omega),obind_of,decide_eq_true rfl,if_pos rfl]
  rw [ints14_F _ _ (by simp; omega) (by simp; omega),obind_of,decide_eq_true rfl,if_pos rfl]
  rw [same14_F _ _ (by omega) (by omega),obind_of,decide_eq_true rfl,if_pos rfl]
  have key : ∀ R : Option Bool,R = (obind (Rc.edone.F 30000 (1275 : Int) W.val W.rng (W.r : Int) W.count W.told W.bits) fun r12 =>
    br (r12.fst != (0 : Int)) (some (r12.fst == (2 : Int)))
     (obind (Rc.rnew.F 30000 r12.snd) fun r13 =>
      obind (Rc.rvoiced.F 30000 rate ms was r13.fst r13.snd.fst r13.snd.snd.fst r13.snd.snd.snd.fst r13.snd.snd.snd.snd.fst r13.snd.snd.snd.snd.snd.fst r13.snd.snd.snd.snd.snd.snd.fst r13.snd.snd.snd.snd.snd.snd.snd.fst r13.snd.snd.snd.snd.snd.snd.snd.snd.fst r13.snd.snd.snd.snd.snd.snd.snd.snd.snd.fst r13.snd.snd.snd.snd.snd.snd.snd.snd.snd.snd) fun r14 =>
       obind (Rc.is14.F 30000 kind one btw r14.fst r14.snd.fst r14.snd.snd.fst fresh r14.snd.snd.snd.snd.snd.snd.snd.snd.snd.snd.snd.snd.fst two G pulses r14.snd.snd.snd.snd.snd.snd.snd.snd.snd.snd.snd.snd.snd.snd.fst r14.snd.snd.snd.snd.snd.snd.snd.snd.snd.snd.snd.snd.snd.snd.snd.fst r14.snd.snd.snd.snd.snd.snd.snd.snd.snd.snd.snd.snd.snd.snd.snd.snd.fst r14.snd.snd.snd.snd.snd.snd.snd.snd.snd.snd.snd.snd.snd.snd.snd.snd.snd.fst r14.snd.snd.snd.snd.snd.snd.snd.snd.snd.snd.snd.snd.snd.snd.snd.snd.snd.snd ltps) fun r15 =>
        br r15
         (obind (Rc.rtell.F 30000 r14.snd.snd.snd.fst r14.snd.snd.snd.snd.fst r14.snd.snd.snd.snd.snd.fst r14.snd.snd.snd.snd.snd.snd.fst r14.snd.snd.snd.snd.snd.snd.snd.fst r14.snd.snd.snd.snd.snd.snd.snd.snd.fst r14.snd.snd.snd.snd.snd.snd.snd.snd.snd.fst r14.snd.snd.snd.snd.snd.snd.snd.snd.snd.snd.fst r14.snd.snd.snd.snd.snd.snd.snd.snd.snd.snd.snd.fst r14.snd.snd.snd.snd.snd.snd.snd.snd.snd.snd.snd.snd.snd.fst r13.snd.snd.snd.snd.snd.snd.snd.snd.snd.snd) fun r16 =>
          obind (Rc.etell.F 30000 W.val W.rng (W.r : Int) W.count W.told W.bits) fun r17 => some (r16 == r17))
         (some false))) -> R = some true := by
   intro R hR
   rw [hR]
   have hedone := edone_F hok.1 (hok.2.lim (N:=30000) (by omega)) (by omega) 1275
   rw [if_neg (show ¬ ((1275 : Int) < 0 \/ (1275 : Int) > 1275) by decide)] at hedone
   by_cases ct : W.tell > 8 * 1275
   ·rw [if_pos ct] at hedone
    refine obind_step hedone ?_
    rfl
   ·rw [if_neg ct] at hedone
    have hfit := (E.out_fit hok.1 (n:=1275) (by omega)).2.2.2.2
    refine obind_step hedone ?_
    refine br_no rfl ?_
    simp only
    rw [show (1275 : Int).toNat = 1275 from rfl]
    have hbb := tb_bytes 1275 (W.out 1275)
    have hlen := tb_len 1275 (W.out 1275)
    generalize tb 1275 (W.out 1275) = b at hfit hbb hlen
    have hl : b.length < 140737488351233 := by omega
    rw [rnew_F hbb (by omega) (by omega),obind_of]
    simp only
    have hs := RS.new_ok hbb
    obtain ⟨eq',hV⟩ := rvoiced_F (N:=30000) hbb hl g.may was hs (by omega) (by omega) 0
    have hfok := (fr14_facts hbb g.may was hs (by omega)).1
    obtain ⟨y1,y2,y3,y4,y5,y6,y7,y8,y9,y10,y11⟩ := fr14_back hbb g hW hfit
    rw [RS.new_ct,y1,y2,y3,y4,y5,y6,y7,y8,y9] at hV
    generalize fr14 b rate ms was (RS.new b) = f at *
    refine obind_step hV ?_
    simp only
    have hI := is14_yes (N:=30000) (kind:=kind) (one:=one) (btw:=btw) (fresh:=fresh) (two:=two) (gains:=G) (pulses:=pulses) (l:=ltps) (by omega) (by omega) (by omega) (by omega) (by omega)
    refine obind_step hI ?_
    rw [br_true]
    obtain ⟨t0,t1⟩ := RS.ct_rg hfok (by omega)
    refine obind_step (rtell_F hfok.q t0 (by omega) (by omega)) ?_
    refine obind_step (etell_F hok.1 (hok.2.lim (by omega))) ?_
    have : f.s.q.tell f.s.ct = W.tell := by
     unfold RS.ct
     rw [y10,y11]
     have e1 : (W.rd b).rng = W.rng := rfl
     have e2 : (W.rd b).m = W.k + 4 := rfl
     unfold Q.tell E.tell E.count
     rw [e1,e2]
     omega
    rw [this]
    simp
  simp only [chkI_same,chkL_same,chkB_same,chkR_same]
  cases hf : fresh with
  | true =>
   rw [br_true,chk_pos ⟨by omega,by omega⟩,chk_pos ⟨by omega,by omega⟩]
   refine br_no (by rw [hG.2 hf]; exact bne_self14 _) ?_
   rw [hf] at key
   exact key _ rfl
  | false =>
   rw [br_false]
   rw [hf] at key
   exact key _ rfl
 ·refine obind_step (spwritef_not hN (by omega) g) ?_
  simp only
  refine obind_step (good14_F hN (by omega)) ?_
  refine obind_step ((spgood_F hN (by omega)).2 g (by omega)) ?_
  rw [decide_eq_false g]
  rw [if_pos (show (false == false) = true from rfl),if_pos (show (false == ((1 : Int) == 0)) = true from rfl),if_neg (by simp)]
  refine br_yes rfl ?_
  refine obind_step (etell_F E.new_ok (E.new_low.lim (by omega))) ?_
  rw [E.new_tell]
  rfl
end Go.Pl
