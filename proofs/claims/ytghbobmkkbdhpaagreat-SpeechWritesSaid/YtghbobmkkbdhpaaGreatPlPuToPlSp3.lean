/-
 Layer 9: how pulses lie in a block, read by both.
 Conditions: none.
-/
import Derived.Test.YtghbobmkkbdhpaaGreatPlBaseToPlRen5
import Derived.Test.YtghbobmkkbdhpaaGreatPlKnown9
import Derived.Test.YtghbobmkkbdhpaaGreatPlGaToPlGa2
import Derived.Test.YtghbobmkkbdhpaaGreatSpLaws
set_option linter.unusedVariables false
set_option linter.unusedSimpArgs false
namespace Go.Pl
open Go.Eng Go.Proofs
theorem ticdf9_F {N : Nat} (n : Int) : Rc.ticdf.F N n = some (icdfT n) := by
 unfold Rc.ticdf.F icdfT
 simp only [br_beq]
 repeat' split
 all_goals rfl
theorem len5 : (icdfT 5).length = 17 := rfl
theorem g5 : GoodT (icdfT 5) := icdf_good (by omega) (by omega)
def tot : List Int -> Int
 | [] => 0
 | x :: r => x + tot r
theorem tot_app (a b : List Int) : tot (a ++ b) = tot a + tot b := by
 induction a with
 | nil => simp [tot]
 | cons x a ih => simp only [List.cons_append,tot,ih]; omega
theorem ct_m {b : List Int} {C : Int} {q q' : Q} (h : q.m <= q'.m) : ct (C + 8 * (q.m : Int)) q q' = C + 8 * (q'.m : Int) := by
 unfold ct
 omega
def rdv (b : List Int) (q : Q) (ft : Int) : Int × Q := if ft <= 1 then (0,q) else (q.ch ft,q.un b ft)
theorem rdv_facts {b : List Int} (hb : Bytes b) {q : Q} (h : q.Ok) {ft : Int} (f0 : 1 <= ft) (f1 : ft <= 256) : 0 <= (rdv b q ft).1 /\ (rdv b q ft).1 < ft /\ (rdv b q ft).2.Ok /\ q.m <= (rdv b q ft).2.m /\ (rdv b q ft).2.m <= q.m + 4 := by
 unfold rdv
 split
 ·exact ⟨by simp only; omega,by simp only; omega,h,Nat.le_refl _,by simp only; omega⟩
 ·have := Q.ch_range h (ft:=ft) (by omega) (by omega)
  have hm := Q.un_m b q ft
  exact ⟨this.1,this.2,Q.un_ok hb h (by omega) (by omega),hm.1,hm.2⟩
section
variable {N : Nat} {b : List Int}
theorem ruint_rdv {back wait waiting C eq : Int} {bad : Bool} (hb : Bytes b) (hl : b.length < 140737488351233) {q : Q} (h : q.Ok) {ft : Int} (f1 : ft <= 256) (c0 : 0 <= C) (c1 : C + 8 * (q.m : Int) < 1099511627776) (hN : 300 <= N) :
  ∃ eq',Rc.ruint.F N ft q.rng q.val q.last (fr b q.m) back wait waiting (C + 8 * (q.m : Int)) eq bad b =
   some ((rdv b q ft).1,(rdv b q ft).2.rng,(rdv b q ft).2.val,(rdv b q ft).2.last,fr b (rdv b q ft).2.m,back,wait,waiting,C + 8 * ((rdv b q ft).2.m : Int),eq',bad) := by
 unfold rdv
 split
 ·exact ⟨eq,ruint_out (Or.inl (by assumption))⟩
 ·obtain ⟨e,r⟩ := ruint_small (N:=N) (back:=back) (wait:=wait) (waiting:=waiting) (count:=C + 8 * (q.m : Int)) (eq:=eq) (bad:=bad) hb hl h (ft:=ft) (by omega) f1 (by omega) c1 hN
  exact ⟨e,by rw [r,ct_m (b:=b) (Q.un_m b q ft).1]⟩
end
def shq (b : List Int) : Nat -> Int -> Q -> Q × List Int
 | 0,k,q => (q,[k])
 | d + 1,k,q =>
  ((shq b d (k - (rdv b q (k + 1)).1) (shq b d (rdv b q (k + 1)).1 (rdv b q (k + 1)).2).1).1,
   (shq b d (rdv b q (k + 1)).1 (rdv b q (k + 1)).2).2 ++ (shq b d (k - (rdv b q (k + 1)).1) (shq b d (rdv b q (k + 1)).1 (rdv b q (k + 1)).2).1).2)
theorem shq_facts {b : List Int} (hb : Bytes b) : ∀ (d : Nat) (k : Int) (q : Q),q.Ok -> 0 <= k -> k <= 16 ->
  (shq b d k q).1.Ok /\ q.m <= (shq b d k q).1.m /\ (shq b d k q).1.m + 4 <= q.m + 4 * 2 ^ d /\ (shq b d k q).2.length = 2 ^ d /\ (∀ x ∈ (shq b d k q).2,0 <= x /\ x <= 16) /\ tot (shq b d k q).2 = k
 | 0,k,q,h,k0,k1 => ⟨h,Nat.le_refl _,by simp [shq],rfl,fun x hx => by simp [shq] at hx; omega,by simp [shq,tot]⟩
 | d + 1,k,q,h,k0,k1 => by
  obtain ⟨r1,r2,r3,r4,r5⟩ := rdv_facts hb h (ft:=k + 1) (by omega) (by omega)
  obtain ⟨a1,a2,a3,a4,a5,a6⟩ := shq_facts hb d (rdv b q (k + 1)).1 (rdv b q (k + 1)).2 r3 r1 (by omega)
  obtain ⟨c1,c2,c3,c4,c5,c6⟩ := shq_facts hb d (k - (rdv b q (k + 1)).1) (shq b d (rdv b q (k + 1)).1 (rdv b q (k + 1)).2).1 a1 (by omega) (by omega)
  have hp : 2 ^ (d + 1) = 2 * 2 ^ d := by rw [Nat.pow_succ,Nat.mul_comm]
  have hp1 : 1 <= 2 ^ d := Nat.one_le_two_pow
  refine ⟨c1,by simp only [shq]; omega,by simp only [shq]; omega,by simp only [shq,List.length_append]; omega,fun x hx => ?_,by simp only [shq,tot_app]; omega⟩
  simp only [shq,List.mem_append] at hx
  rcases hx with hx | hx
  ·exact a5 x hx
  ·exact c5 x hx
theorem p2_16 {d : Nat} (h : d <= 4) : 2 ^ d <= 16 := by
 have : 2 ^ d <= 2 ^ 4 := Nat.pow_le_pow_right (by omega) h
 omega
section
variable {N : Nat} {b : List Int} {back window waiting C : Int} {bad : Bool}
theorem rshare9_G (hb : Bytes b) (hl : True -> b.length < 140737488351233) (hN : 300 <= N) (c0 : 0 <= C) (c1 : True -> C < 549755813888) {M : Nat} (hM : True -> M <= 1000000) : ∀ (nn d : Nat) (k : Int) (q : Q) (l : List Int) (eq : Int),q.Ok -> 0 <= k -> k <= 16 -> l.length = 2 ^ d -> d <= 4 -> d < nn -> q.m + 4 * 2 ^ d <= M ->
  ∃ eq',Rc.rshare9.G N nn k q.rng q.val q.last (fr b q.m) back window waiting (C + 8 * (q.m : Int)) eq bad b l =
   some ((shq b d k q).1.rng,(shq b d k q).1.val,(shq b d k q).1.last,fr b (shq b d k q).1.m,back,window,waiting,C + 8 * ((shq b d k q).1.m : Int),eq',bad,(shq b d k q).2)
 | 0,d,k,q,l,_,_,_,_,_,_,h,_ => by omega
 | nn + 1,0,k,q,l,eq,h,k0,k1,hd,_,_,_ => by
  unfold Rc.rshare9.G
  simp only [br_beq,chkL_same]
  rw [Nat.pow_zero] at hd
  rw [if_pos (by omega),chk_pos (by omega)]
  match l,hd with
  | [x],_ => exact ⟨eq,rfl⟩
 | nn + 1,d + 1,k,q,l,eq,h,k0,k1,hd,hd4,hn,hm => by
  have hp : 2 ^ (d + 1) = 2 * 2 ^ d := by rw [Nat.pow_succ,Nat.mul_comm]
  have hp1 : 1 <= 2 ^ d := Nat.one_le_two_pow
  have hp2 := p2_16 hd4
  have c1' := c1 trivial
  have hl' := hl trivial
  have hM' := hM trivial
  obtain ⟨r1,r2,r3,r4,r5⟩ := rdv_facts hb h (ft:=k + 1) (by omega) (by omega)
  obtain ⟨a1,a2,a3,a4,a5,a6⟩ := shq_facts hb d (rdv b q (k + 1)).1 (rdv b q (k + 1)).2 r3 r1 (by omega)
  obtain ⟨e1,e2,e3,e4,e5,e6⟩ := shq_facts hb d (k - (rdv b q (k + 1)).1) (shq b d (rdv b q (k + 1)).1 (rdv b q (k + 1)).2).1 a1 (by omega) (by omega)
  have hH : IntKind.i64.wrap ((l.length : Int).tdiv 2) = ((2 ^ d : Nat) : Int) := by
   rw [tdiv_ediv (by omega),i64 (by omega) (by omega)]
   omega
  unfold Rc.rshare9.G
  simp only [br_beq,chkL_same,List.take_zero,List.nil_append,Nat.zero_add,Nat.sub_zero,List.drop_zero]
  obtain ⟨q1,hu⟩ := ruint_rdv (N:=N) (back:=back) (wait:=window) (waiting:=waiting) (C:=C) (eq:=eq) (bad:=bad) hb hl' h (ft:=k + 1) (by omega) c0 (by omega) hN
  rw [if_neg (by omega),i64 (x:=k + 1) (by omega) (by omega),hu,obind_of]
  simp only [hH,Int.toNat_natCast]
  obtain ⟨q2,ih1⟩ := rshare9_G hb hl hN c0 c1 hM nn d (rdv b q (k + 1)).1 (rdv b q (k + 1)).2 (List.take (2 ^ d) l) q1 r3 r1 (by omega) (by rw [List.length_take]; omega) (by omega) (by omega) (by omega)
  rw [chk_pos (by omega),chk_pos (by omega),ih1,obind_of]
  have hlen : ((shq b d (rdv b q (k + 1)).1 (rdv b q (k + 1)).2).2 ++ List.drop (2 ^ d) l).length = 2 * 2 ^ d := by rw [List.length_append,a4,List.length_drop]; omega
  simp only [hlen]
  obtain ⟨q3,ih2⟩ := rshare9_G hb hl hN c0 c1 hM nn d (k - (rdv b q (k + 1)).1) (shq b d (rdv b q (k + 1)).1 (rdv b q (k + 1)).2).1 (List.take (2 * 2 ^ d - 2 ^ d) (List.drop (2 ^ d) ((shq b d (rdv b q (k + 1)).1 (rdv b q (k + 1)).2).2 ++ List.drop (2 ^ d) l))) q2 a1 (by omega) (by omega) (by rw [List.length_take,List.length_drop,hlen]; omega) (by omega) (by omega) (by omega)
  rw [chk_pos (by omega),chk_pos (by omega),i64 (x:=k - (rdv b q (k + 1)).1) (by omega) (by omega),ih2,obind_of,List.take_left' a4,List.drop_eq_nil_of_le (by omega),List.append_nil]
  exact ⟨q3,rfl⟩
end
end Go.Pl
/-
 Layer 9: signs and blocks, read by both.
 Conditions: none.
-/
namespace Go.Pl
open Go.Eng Go.Proofs
def sgn (b : List Int) : List Int -> W -> List Int × W × Int
 | [],w => ([],w,0)
 | v :: r,w => if v > 0 then ((if w.val b 1 = 1 then 0 - v else v) :: (sgn b r (w.next b 1)).1,(sgn b r (w.next b 1)).2.1,1 + (sgn b r (w.next b 1)).2.2) else (v :: (sgn b r w).1,(sgn b r w).2.1,(sgn b r w).2.2)
theorem sgn_facts {b : List Int} (hb : Bytes b) : ∀ (X : List Int) (w : W),w.Ok -> (sgn b X w).2.1.Ok /\ (sgn b X w).1.length = X.length /\ 0 <= (sgn b X w).2.2 /\ (sgn b X w).2.2 <= X.length
 | [],w,h => ⟨h,rfl,by simp [sgn],by simp [sgn]⟩
 | v :: r,w,h => by
  simp only [sgn]
  split
  ·obtain ⟨a1,a2,a3,a4⟩ := sgn_facts hb r (w.next b 1) (W.next_ok hb h (by omega))
   exact ⟨a1,by simp [a2],by simp only; omega,by simp only [List.length_cons]; omega⟩
  ·obtain ⟨a1,a2,a3,a4⟩ := sgn_facts hb r w h
   exact ⟨a1,by simp [a2],a3,by simp only [List.length_cons]; omega⟩
section
variable {N : Nat} {b : List Int} {bad : Bool}
theorem rrsigns_loop (hb : Bytes b) (hl : True -> b.length < 140737488351233) (hN : 300 <= N) {rng val last front eq : Int} : ∀ (nn : Nat) (R D : List Int) (w : W) (c : Int),w.Ok -> D.length + R.length = 16 -> (∀ x ∈ R,0 <= x /\ x <= 16) -> R.length < nn -> 0 <= c -> (True -> c + R.length < 1099511600000) ->
  Rc.rpulses.loop6 N nn rng val last front eq bad b (D.length : Int) (fr b w.k) w.win (w.wai : Int) c (D ++ R) =
   some (fr b (sgn b R w).2.1.k,(sgn b R w).2.1.win,((sgn b R w).2.1.wai : Int),c + (sgn b R w).2.2,D ++ (sgn b R w).1)
 | 0,R,D,w,c,_,_,_,h,_,_ => by omega
 | nn + 1,[],D,w,c,hw,hd,hR,h,c0,c1 => by
  simp only [List.length_nil] at hd
  unfold Rc.rpulses.loop6
  simp only [br_dec,br_beq,chkI_same,chkB_same,chkL_same]
  rw [if_neg (by omega)]
  simp only [sgn,Int.add_zero]
 | nn + 1,v :: R,D,w,c,hw,hd,hR,h,c0,c1 => by
  have c1 := c1 trivial
  have hl' := hl trivial
  simp only [List.length_cons] at hd h c1
  have hv := hR v (by simp)
  have hR' : ∀ x ∈ R,0 <= x /\ x <= 16 := fun x hx => hR x (by simp [hx])
  have hlen : (D ++ v :: R).length = 16 := by simp; omega
  unfold Rc.rpulses.loop6
  simp only [br_dec,br_beq,chkI_same,chkB_same,chkL_same,Int.toNat_natCast]
  have e1 : (D ++ v :: R).getD D.length 0 = v := by simp
  rw [if_pos (by omega),chk_pos (by omega),i64 (x:=(D.length : Int) + 1) (by omega) (by omega)]
  simp only [e1]
  by_cases cv : v > 0
  ·rw [if_pos cv,rbits_F hb hl' hw 1 c0 (by omega) hN,if_pos (by omega),obind_of,show (1 : Int).toNat = 1 from rfl]
   simp only
   rw [i64 (x:=0 - v) (by omega) (by omega)]
   have ih := fun D' (hD' : D'.length + R.length = 16) => rrsigns_loop hb hl hN (rng:=rng) (val:=val) (last:=last) (front:=front) (eq:=eq) nn R D' (w.next b 1) (c + 1) (W.next_ok hb hw (by omega)) hD' hR' (by omega) (by omega) (fun _ => by omega)
   have hs : sgn b (v :: R) w = ((if w.val b 1 = 1 then 0 - v else v) :: (sgn b R (w.next b 1)).1,(sgn b R (w.next b 1)).2.1,1 + (sgn b R (w.next b 1)).2.2) := by simp only [sgn]; rw [if_pos cv]
   rw [hs]
   simp only
   by_cases cs : w.val b 1 = 1
   ·rw [if_pos cs,chk_pos (by omega),chk_pos (by omega),if_pos cs]
    have e2 : (D ++ v :: R).set D.length (0 - v) = (D ++ [0 - v]) ++ R := by simp
    rw [e2]
    have := ih (D ++ [0 - v]) (by simp; omega)
    rw [List.length_append,List.length_singleton,show ((D.length + 1 : Nat) : Int) = (D.length : Int) + 1 by omega] at this
    rw [this]
    simp [Int.add_assoc]
   ·rw [if_neg cs,if_neg cs]
    have := ih (D ++ [v]) (by simp; omega)
    rw [List.length_append,List.length_singleton,show ((D.length + 1 : Nat) : Int) = (D.length : Int) + 1 by omega,show (D ++ [v]) ++ R = D ++ v :: R by simp] at this
    rw [this]
    simp [Int.add_assoc]
  ·rw [if_neg cv]
   have hs : sgn b (v :: R) w = (v :: (sgn b R w).1,(sgn b R w).2.1,(sgn b R w).2.2) := by simp only [sgn]; rw [if_neg cv]
   rw [hs]
   have := rrsigns_loop hb hl hN (rng:=rng) (val:=val) (last:=last) (front:=front) (eq:=eq) nn R (D ++ [v]) w c hw (by simp; omega) hR' (by omega) c0 (fun _ => by omega)
   rw [List.length_append,List.length_singleton,show ((D.length + 1 : Nat) : Int) = (D.length : Int) + 1 by omega,show (D ++ [v]) ++ R = D ++ v :: R by simp] at this
   rw [this]
   simp
end
def bsh (b : List Int) (q : Q) : Q × List Int := shq b 4 (q.sk (icdfT 5) : Int) (q.sy b (icdfT 5))
def blks (b : List Int) : Nat -> Q -> W -> Int -> List Int -> Q × W × Int × List Int
 | 0,q,w,C,o => (q,w,C,o)
 | n + 1,q,w,C,o => blks b n (bsh b q).1 (sgn b (bsh b q).2 w).2.1 (C + (sgn b (bsh b q).2 w).2.2) (o ++ (sgn b (bsh b q).2 w).1)
theorem bsh_facts {b : List Int} (hb : Bytes b) {q : Q} (h : q.Ok) : (bsh b q).1.Ok /\ q.m <= (bsh b q).1.m /\ (bsh b q).1.m <= q.m + 68 /\ (bsh b q).2.length = 16 /\ (∀ x ∈ (bsh b q).2,0 <= x /\ x <= 16) /\ tot (bsh b q).2 <= 16 := by
 have hs := (Q.sk_spec h g5).1
 rw [len5] at hs
 have hm := Q.sy_m b q (icdfT 5)
 obtain ⟨a1,a2,a3,a4,a5,a6⟩ := shq_facts hb 4 (q.sk (icdfT 5) : Int) (q.sy b (icdfT 5)) (Q.sy_ok hb h g5) (by omega) (by omega)
 refine ⟨a1,by unfold bsh; omega,by unfold bsh; omega,a4,a5,by unfold bsh; omega⟩
theorem blks_facts {b : List Int} (hb : Bytes b) : ∀ (n : Nat) (q : Q) (w : W) (C : Int) (o : List Int),q.Ok -> w.Ok ->
  (blks b n q w C o).1.Ok /\ (blks b n q w C o).2.1.Ok /\ q.m <= (blks b n q w C o).1.m /\ (blks b n q w C o).1.m <= q.m + 68 * n /\ C <= (blks b n q w C o).2.2.1 /\ (blks b n q w C o).2.2.1 <= C + 16 * n /\ (blks b n q w C o).2.2.2.length = o.length + 16 * n
 | 0,q,w,C,o,h,hw => ⟨h,hw,Nat.le_refl _,by simp [blks],by simp [blks],by simp [blks],by simp [blks]⟩
 | n + 1,q,w,C,o,h,hw => by
  obtain ⟨a1,a2,a3,a4,a5,a6⟩ := bsh_facts hb h
  obtain ⟨s1,s2,s3,s4⟩ := sgn_facts hb (bsh b q).2 w hw
  obtain ⟨i1,i2,i3,i4,i5,i6,i7⟩ := blks_facts hb n (bsh b q).1 (sgn b (bsh b q).2 w).2.1 (C + (sgn b (bsh b q).2 w).2.2) (o ++ (sgn b (bsh b q).2 w).1) a1 s1
  rw [List.length_append,s2,a4] at i7
  exact ⟨i1,i2,by simp only [blks]; omega,by simp only [blks]; omega,by simp only [blks]; omega,by simp only [blks]; omega,by simp only [blks]; omega⟩
section
variable {N : Nat} {b : List Int} {bad : Bool}
theorem rpulses_loop (hb : Bytes b) (hl : True -> b.length < 140737488351233) (hN : 30000 <= N) {n : Nat} (hn : n <= 480) : ∀ (nn m : Nat) (q : Q) (w : W) (C : Int) (o : List Int) (eq : Int),q.Ok -> w.Ok -> 0 <= C -> (True -> C + 16 * m <= 100000) -> q.m + 68 * m <= 10000 -> o.length + 16 * m = n -> m < nn ->
  ∃ eq',Rc.rpulses.loop2 N nn n b q.rng q.val q.last (fr b q.m) (fr b w.k) w.win (w.wai : Int) (C + 8 * (q.m : Int)) eq bad o =
   some ((blks b m q w C o).1.rng,(blks b m q w C o).1.val,(blks b m q w C o).1.last,fr b (blks b m q w C o).1.m,fr b (blks b m q w C o).2.1.k,(blks b m q w C o).2.1.win,((blks b m q w C o).2.1.wai : Int),(blks b m q w C o).2.2.1 + 8 * ((blks b m q w C o).1.m : Int),eq',bad,(blks b m q w C o).2.2.2)
 | 0,m,q,w,C,o,_,_,_,_,_,_,_,h => by omega
 | nn + 1,0,q,w,C,o,eq,h,hw,c0,c1,hm,ho,h0 => by
  unfold Rc.rpulses.loop2
  simp only [br_dec,chkI_same,chkB_same,chkL_same]
  rw [if_neg (by omega)]
  exact ⟨eq,rfl⟩
 | nn + 1,m + 1,q,w,C,o,eq,h,hw,c0,c1,hm,ho,h0 => by
  have c1 := c1 trivial
  have hl' := hl trivial
  have hs := (Q.sk_spec h g5).1
  rw [len5] at hs
  have hq1 := Q.sy_ok hb h g5
  have hm1 := Q.sy_m b q (icdfT 5)
  obtain ⟨a1,a2,a3,a4,a5,a6⟩ := bsh_facts hb h
  obtain ⟨s1,s2,s3,s4⟩ := sgn_facts hb (bsh b q).2 w hw
  unfold Rc.rpulses.loop2
  simp only [br_dec,chkI_same,chkB_same,chkL_same]
  obtain ⟨q1,r1⟩ := (rsymbol_F (N:=N) (back:=fr b w.k) (wait:=w.win) (waiting:=(w.wai : Int)) (count:=C + 8 * (q.m : Int)) (eq:=eq) (bad:=bad) hb hl' h (icdfT 5) (by omega) (by omega) (by omega)).1 g5
  rw [if_pos (by omega),icdf_F,obind_of,r1,obind_of]
  simp only
  rw [ct_m (b:=b) hm1.1]
  obtain ⟨q2,hsh⟩ := rshare9_G (N:=N) (back:=fr b w.k) (window:=w.win) (waiting:=(w.wai : Int)) (C:=C) (bad:=bad) hb hl (by omega) c0 (fun _ => by omega) (M:=1000000) (fun _ => Nat.le_refl _) N 4 (q.sk (icdfT 5) : Int) (q.sy b (icdfT 5)) (List.replicate (Int.toNat 16) 0) q1 hq1 (by omega) (by omega) (by simp) (by omega) (by omega) (by omega)
  have hsf : Rc.rshare9.F N (q.sk (icdfT 5) : Int) (q.sy b (icdfT 5)).rng (q.sy b (icdfT 5)).val (q.sy b (icdfT 5)).last (fr b (q.sy b (icdfT 5)).m) (fr b w.k) w.win (w.wai : Int) (C + 8 * ((q.sy b (icdfT 5)).m : Int)) q1 bad b (List.replicate (Int.toNat 16) 0) = _ := hsh
  rw [hsf,obind_of]
  simp only
  have hsg := rrsigns_loop (N:=N) (bad:=bad) hb hl (by omega) (rng:=(bsh b q).1.rng) (val:=(bsh b q).1.val) (last:=(bsh b q).1.last) (front:=fr b (bsh b q).1.m) (eq:=q2) N (bsh b q).2 [] w (C + 8 * ((bsh b q).1.m : Int)) hw (by rw [a4]; rfl) a5 (by omega) (by omega) (fun _ => by omega)
  have hsg' : Rc.rpulses.loop6 N N (shq b 4 (q.sk (icdfT 5) : Int) (q.sy b (icdfT 5))).1.rng (shq b 4 (q.sk (icdfT 5) : Int) (q.sy b (icdfT 5))).1.val (shq b 4 (q.sk (icdfT 5) : Int) (q.sy b (icdfT 5))).1.last (fr b (shq b 4 (q.sk (icdfT 5) : Int) (q.sy b (icdfT 5))).1.m) q2 bad b 0 (fr b w.k) w.win (w.wai : Int) (C + 8 * ((shq b 4 (q.sk (icdfT 5) : Int) (q.sy b (icdfT 5))).1.m : Int)) (shq b 4 (q.sk (icdfT 5) : Int) (q.sy b (icdfT 5))).2 = _ := hsg
  rw [hsg',obind_of]
  simp only [List.nil_append]
  rw [chk_pos (by rw [s2,a4]; omega)]
  obtain ⟨q3,ih⟩ := rpulses_loop hb hl hN hn nn m (bsh b q).1 (sgn b (bsh b q).2 w).2.1 (C + (sgn b (bsh b q).2 w).2.2) (o ++ (sgn b (bsh b q).2 w).1) q2 a1 s1 (by omega) (fun _ => by omega) (by omega) (by rw [List.length_append,s2,a4]; omega) (by omega)
  rw [show C + (sgn b (bsh b q).2 w).2.2 + 8 * ((bsh b q).1.m : Int) = C + 8 * ((bsh b q).1.m : Int) + (sgn b (bsh b q).2 w).2.2 by omega] at ih
  exact ⟨q3,ih⟩
end
end Go.Pl
/-
 Layer 9: pulses that may be; pulses are read by both in one way.
 Conditions: none.
-/
namespace Go.Pl
open Go.Eng Go.Proofs
def ab (v : Int) : Int := if v < 0 then -v else v
def c32 (v : Int) : Int := if v < -32 then -32 else if v > 32 then 32 else v
def cnt (l : List Int) : Int := tot (l.map fun v => ab (c32 v))
theorem c32_ab (v : Int) : 0 <= ab (c32 v) /\ ab (c32 v) <= 32 := by
 unfold ab c32
 split <;> split <;> (try split) <;> omega
theorem cnt_range : ∀ l : List Int,0 <= cnt l /\ cnt l <= 32 * l.length
 | [] => by simp [cnt,tot]
 | v :: r => by
  have h1 := c32_ab v
  have h2 := cnt_range r
  simp only [cnt,List.map_cons,tot,List.length_cons] at h2 ⊢
  omega
theorem cnt_app (a b : List Int) : cnt (a ++ b) = cnt a + cnt b := by simp [cnt,tot_app]
section
variable {N : Nat}
theorem abs9_F {v : Int} (h0 : -100 <= v) (h1 : v <= 100) : Rc.abs9.F N v = some (ab v) := by
 unfold Rc.abs9.F ab
 rw [i64 (x:=0 - v) (by omega) (by omega)]
 by_cases c : v < 0
 ·rw [if_pos c,if_pos (show 0 - v > v by omega),Int.zero_sub]
 ·rw [if_neg c]
  by_cases d : 0 - v > v
  ·omega
  ·rw [if_neg d]
theorem clamp32 (v : Int) : Rc.clamp.F N v (-32) 32 = some (c32 v) := by
 unfold Rc.clamp.F c32
 simp only [br_dec]
 rw [if_neg (by omega)]
 by_cases c1 : v < -32
 ·rw [if_pos c1,if_pos c1]
 rw [if_neg c1,if_neg c1]
 by_cases c2 : v > 32
 ·rw [if_pos c2,if_pos c2]
 ·rw [if_neg c2,if_neg c2]
theorem drop_cons {l : List Int} {k : Nat} (h : k < l.length) : l.drop k = l.getD k 0 :: l.drop (k + 1) := by
 rw [List.drop_eq_getElem_cons h,List.getD_eq_getElem?_getD,List.getElem?_eq_getElem h]
 rfl
theorem cnt_drop {l : List Int} {k : Nat} (h : k < l.length) : cnt (l.drop k) = ab (c32 (l.getD k 0)) + cnt (l.drop (k + 1)) := by
 rw [drop_cons h]
 rfl
theorem count_loop {l : List Int} (hl : l.length <= 1000000) : ∀ (nn k : Nat) (s : Int),k <= l.length -> l.length - k < nn -> 0 <= s -> (True -> s <= 32 * k) -> Rc.count9.loop3 N nn l.length l s k = some (s + cnt (l.drop k))
 | 0,k,s,_,h,_,_ => by omega
 | nn + 1,k,s,hk,h,s0,s1 => by
  have s1 := s1 trivial
  unfold Rc.count9.loop3
  simp only [br_dec,chkI_same,chkL_same]
  by_cases c : k < l.length
  ·have hr := c32_ab (l.getD k 0)
   have hb : -100 <= c32 (l.getD k 0) /\ c32 (l.getD k 0) <= 100 := by unfold c32; split <;> (try split) <;> omega
   rw [if_pos (by omega),chk_pos (by omega),Int.toNat_natCast,clamp32,obind_of,abs9_F hb.1 hb.2,obind_of,i64 (by omega) (by omega),i64 (by omega) (by omega)]
   have ih := count_loop hl nn (k + 1) (s + ab (c32 (l.getD k 0))) (by omega) (by omega) (by omega) (fun _ => by omega)
   rw [show ((k + 1 : Nat) : Int) = (k : Int) + 1 by omega] at ih
   rw [ih,cnt_drop c]
   congr 1
   omega
  ·rw [if_neg (by omega),List.drop_eq_nil_of_le (by omega)]
   simp [cnt,tot]
theorem count9_F {l : List Int} (hl : l.length <= 1000000) (hN : l.length < N) : Rc.count9.F N l = some (cnt l) := by
 unfold Rc.count9.F
 have := count_loop (N:=N) hl N 0 0 (by omega) (by omega) (by omega) (fun _ => by omega)
 rw [show ((0 : Nat) : Int) = 0 from rfl] at this
 rw [this,obind_of,List.drop_zero,Int.zero_add]
end
def okB : Nat -> List Int -> Bool
 | 0,_ => true
 | m + 1,l => decide (cnt (l.take 16) <= 16) && okB m (l.drop 16)
theorem okB_snoc : ∀ {i : Nat} {o Y : List Int},o.length = 16 * i -> Y.length = 16 -> okB i o = true -> cnt Y <= 16 -> okB (i + 1) (o ++ Y) = true
 | 0,o,Y,h,hY,_,hc => by
  have : o = [] := by simpa using h
  subst this
  simp only [okB,List.nil_append,Bool.and_true]
  have e : Y.take 16 = Y := List.take_of_length_le (by omega)
  simp only [e]
  simpa using hc
 | i + 1,o,Y,h,hY,ho,hc => by
  simp only [okB,Bool.and_eq_true] at ho
  have ih := okB_snoc (i:=i) (o:=o.drop 16) (by rw [List.length_drop]; omega) hY ho.2 hc
  rw [show okB (i + 1 + 1) (o ++ Y) = (decide (cnt ((o ++ Y).take 16) <= 16) && okB (i + 1) ((o ++ Y).drop 16)) from rfl,List.take_append_of_le_length (by omega),List.drop_append_of_le_length (by omega),ih,ho.1]
  rfl
def mayB (n : Nat) : Bool := decide (16 <= n) && (decide (n <= 480) && decide (n % 16 = 0))
def goodB (l : List Int) : Bool := mayB l.length && okB (l.length / 16) l
section
variable {N : Nat}
theorem pmay_F (n : Int) : Rc.pmay9.F N n = some (decide (16 <= n) && (decide (n <= 480) && decide (n % 16 = 0))) := by
 unfold Rc.pmay9.F
 simp only [br_dec]
 by_cases c1 : n >= 16
 ·rw [if_pos c1]
  by_cases c2 : n <= 480
  ·rw [if_pos c2,Int.tmod_eq_emod_of_nonneg (by omega)]
   simp only [show decide (16 <= n) = true by simpa using c1,show decide (n <= 480) = true by simpa using c2,Bool.true_and]
   rfl
  ·rw [if_neg c2]
   simp [c2]
 ·rw [if_neg c1]
  simp only [show decide (16 <= n) = false by simpa using c1,Bool.false_and]
theorem pmay_nat (n : Nat) : Rc.pmay9.F N (n : Int) = some (mayB n) := by
 rw [pmay_F]
 unfold mayB
 congr 1
 have e1 : (16 <= (n : Int)) ↔ 16 <= n := by omega
 have e2 : ((n : Int) <= 480) ↔ n <= 480 := by omega
 have e3 : ((n : Int) % 16 = 0) ↔ n % 16 = 0 := by omega
 simp only [e1,e2,e3]
theorem good9_loop {l e : List Int} (hl : l.length <= 480) (hN : 30000 <= N) (s : Bool) : ∀ (nn m k : Nat),k + 16 * m = l.length -> m < nn ->
  (okB m (l.drop k) = true -> Rc.good9.loop4 N nn e l k s = some (.inl s)) /\ (okB m (l.drop k) = false -> Rc.good9.loop4 N nn e l k s = some (.inr false))
 | 0,m,k,_,h => by omega
 | nn + 1,0,k,hk,h => by
  unfold Rc.good9.loop4
  simp only [br_dec]
  rw [if_neg (by omega)]
  exact ⟨fun _ => rfl,fun h => by simp [okB] at h⟩
 | nn + 1,m + 1,k,hk,h => by
  unfold Rc.good9.loop4
  simp only [br_dec,chkL_same]
  rw [if_pos (by omega),i64 (x:=(k : Int) + 16) (by omega) (by omega),chk_pos (by omega),chk_pos (by omega),show ((k : Int) + 16).toNat = k + 16 by omega,Int.toNat_natCast,show k + 16 - k = 16 by omega,count9_F (by rw [List.length_take,List.length_drop]; omega) (by rw [List.length_take,List.length_drop]; omega),obind_of]
  have ih := good9_loop (e:=e) hl hN s nn m (k + 16) (by omega) (by omega)
  rw [show ((k + 16 : Nat) : Int) = (k : Int) + 16 by omega] at ih
  have hok : okB (m + 1) (l.drop k) = (decide (cnt ((l.drop k).take 16) <= 16) && okB m (l.drop (k + 16))) := by simp only [okB,List.drop_drop]
  rw [hok]
  by_cases c : cnt ((l.drop k).take 16) <= 16
  ·rw [if_neg (show ¬ cnt ((l.drop k).take 16) > 16 by omega),decide_eq_true c]
   simpa using ih
  ·rw [if_pos (show cnt ((l.drop k).take 16) > 16 by omega),decide_eq_false c]
   exact ⟨fun h => by simp at h,fun _ => rfl⟩
theorem good9_F (l : List Int) (hN : 30000 <= N) : Rc.good9.F N l = some (goodB l) := by
 unfold Rc.good9.F goodB
 rw [pmay_nat,obind_of,br_not]
 cases hm : mayB l.length with
 | false => rfl
 | true =>
  simp only [mayB,Bool.and_eq_true,decide_eq_true_eq] at hm
  have h := good9_loop (N:=N) (l:=l) (e:=l) (by omega) hN false N (l.length / 16) 0 (by omega) (by omega)
  rw [show ((0 : Nat) : Int) = 0 from rfl,List.drop_zero] at h
  rw [if_pos rfl,Bool.true_and]
  cases ho : okB (l.length / 16) l with
  | true => rw [h.1 ho]; rfl
  | false => rw [h.2 ho]; rfl
end
theorem sgn_cnt {b : List Int} : ∀ (X : List Int) (w : W),(∀ x ∈ X,0 <= x /\ x <= 16) -> cnt (sgn b X w).1 = tot X
 | [],w,_ => rfl
 | v :: r,w,h => by
  have hv := h v (by simp)
  have ih := fun w' => sgn_cnt (b:=b) r w' (fun x hx => h x (by simp [hx]))
  simp only [sgn]
  split
  ·have : cnt ((if w.val b 1 = 1 then 0 - v else v) :: (sgn b r (w.next b 1)).1) = ab (c32 (if w.val b 1 = 1 then 0 - v else v)) + cnt (sgn b r (w.next b 1)).1 := rfl
   simp only
   rw [this,ih,tot]
   congr 1
   unfold ab c32
   split <;> split <;> (try split) <;> (try split) <;> omega
  ·have : cnt (v :: (sgn b r w).1) = ab (c32 v) + cnt (sgn b r w).1 := rfl
   simp only
   rw [this,ih,tot]
   congr 1
   unfold ab c32
   split <;> split <;> (try split) <;> (try split) <;> omega
theorem blks_good {b : List Int} (hb : Bytes b) : ∀ (n : Nat) (q : Q) (w : W) (C : Int) (o : List Int) (i : Nat),q.Ok -> w.Ok -> o.length = 16 * i -> okB i o = true -> okB (i + n) (blks b n q w C o).2.2.2 = true
 | 0,q,w,C,o,i,h,hw,ho,hk => hk
 | n + 1,q,w,C,o,i,h,hw,ho,hk => by
  obtain ⟨a1,a2,a3,a4,a5,a6⟩ := bsh_facts hb h
  obtain ⟨s1,s2,s3,s4⟩ := sgn_facts hb (bsh b q).2 w hw
  have := blks_good hb n (bsh b q).1 (sgn b (bsh b q).2 w).2.1 (C + (sgn b (bsh b q).2 w).2.2) (o ++ (sgn b (bsh b q).2 w).1) (i + 1) a1 s1 (by rw [List.length_append,s2,a4]; omega)
   (okB_snoc ho (by rw [s2,a4]) hk (by rw [sgn_cnt _ _ a5]; exact a6))
  rw [show i + 1 + n = i + (n + 1) by omega] at this
  exact this
end Go.Pl
/-
 Layer 14: a frame is read, in the book's words and the reference's.
 Conditions: none.
-/
namespace Go.Pl
open Go.Eng Go.Proofs
theorem len0 : (icdfT 0).length = 3 := rfl
theorem len3 : (icdfT 3).length = 16 := rfl
theorem len4 : (icdfT 4).length = 9 := rfl
theorem g0 : GoodT (icdfT 0) := icdf_good (by omega) (by omega)
theorem g3 : GoodT (icdfT 3) := icdf_good (by omega) (by omega)
theorem g4 : GoodT (icdfT 4) := icdf_good (by omega) (by omega)
def ord14 (rate : Int) : Nat := if rate = 8000 then 10 else if rate = 16000 then 16 else 0
theorem ord14_le (rate : Int) : ord14 rate <= 16 := by unfold ord14; split <;> (try split) <;> omega
theorem torder_F {N : Nat} (rate : Int) : Rc.torder.F N rate = some (ord14 rate : Int) := by
 unfold Rc.torder.F ord14
 simp only [br_beq]
 split
 ·rfl
 ·split <;> rfl
theorem rorder_F {N : Nat} (rate : Int) : Rc.rorder.F N rate = some (ord14 rate : Int) := by
 unfold Rc.rorder.F ord14
 simp only [br_beq]
 split
 ·rfl
 ·split <;> rfl
theorem spmay_F {N : Nat} (rate ms : Int) : Rc.spmay.F N rate ms = some (decide ((rate = 8000 \/ rate = 16000) /\ (ms = 10 \/ ms = 20))) := by
 unfold Rc.spmay.F
 rw [torder_F,obind_of]
 unfold ord14
 simp only [br_dec,br_beq]
 by_cases h1 : rate = 8000
 ·by_cases h2 : ms = 10
  ·simp [h1,h2]
  ·by_cases h3 : ms = 20
   ·simp [h1,h3]
   ·simp [h1,h2,h3]
 ·by_cases h4 : rate = 16000
  ·by_cases h2 : ms = 10
   ·simp [h4,h2]
   ·by_cases h3 : ms = 20
    ·simp [h4,h3]
    ·simp [h4,h2,h3]
  ·simp [h1,h4]
structure RS where
 q : Q
 w : W
 C : Int
 bad : Bool
abbrev RS.ct (s : RS) : Int := s.C + 8 * (s.q.m : Int)
structure RS.Ok (s : RS) (k : Nat) : Prop where
 q : s.q.Ok
 w : s.w.Ok
 c0 : 0 <= s.C
 c1 : s.C <= 32 * (k : Int)
 m : s.q.m <= 4 * k
theorem RS.Ok.mono {s : RS} {k k' : Nat} (h : s.Ok k) (hk : k <= k') : s.Ok k' := ⟨h.q,h.w,h.c0,by have := h.c1; omega,by have := h.m; omega⟩
theorem ct_of {q q' : Q} (h : q.m <= q'.m) (C : Int) : ct (C + 8 * (q.m : Int)) q q' = C + 8 * (q'.m : Int) := by unfold ct; omega
theorem RS.ct_rg {s : RS} {k : Nat} (h : s.Ok k) (hk : k <= 2000) : 0 <= s.ct /\ s.ct < 1099511000000 := by
 have := h.c0; have := h.c1; have := h.m
 unfold RS.ct; omega
def RS.bit (b : List Int) (s : RS) : RS := ⟨s.q,s.w.next b 1,s.C + 1,s.bad⟩
def RS.sy (b : List Int) (s : RS) (t : List Int) : RS := ⟨s.q.sy b t,s.w,s.C,s.bad⟩
def RS.uv (b : List Int) (s : RS) (ft : Int) : Int := if ft <= 256 then s.q.ch ft else if Pl.uv b s.q s.w ft >= ft then ft - 1 else Pl.uv b s.q s.w ft
def RS.un (b : List Int) (s : RS) (ft : Int) : RS := if ft <= 256 then ⟨s.q.un b ft,s.w,s.C,s.bad⟩ else ⟨s.q.un b ft,s.w.next b (ub ft),s.C + (ub ft : Int),s.bad || decide (Pl.uv b s.q s.w ft >= ft)⟩
section
variable {N : Nat} {b : List Int}
theorem RS.bit_ok (hb : Bytes b) {s : RS} {k : Nat} (h : s.Ok k) : (s.bit b).Ok (k + 1) := ⟨h.q,W.next_ok hb h.w (by omega),by have := h.c0; simp only [RS.bit]; omega,by have := h.c1; simp only [RS.bit]; omega,by have := h.m; simp only [RS.bit]; omega⟩
theorem RS.sy_ok (hb : Bytes b) {s : RS} {k : Nat} (h : s.Ok k) {t : List Int} (g : GoodT t) : (s.sy b t).Ok (k + 1) := by
 have hm := Q.sy_m b s.q t
 exact ⟨Q.sy_ok hb h.q g,h.w,h.c0,by have := h.c1; simp only [RS.sy]; omega,by have := h.m; simp only [RS.sy]; omega⟩
theorem RS.un_ok (hb : Bytes b) {s : RS} {k : Nat} (h : s.Ok k) {ft : Int} (f0 : 1 < ft) (f1 : ft <= 1000) : (s.un b ft).Ok (k + 1) /\ 0 <= s.uv b ft /\ s.uv b ft < ft := by
 have hm := Q.un_m b s.q ft
 have hq := Q.un_ok hb h.q (ft:=ft) (by omega) (by omega)
 have := h.c0; have := h.c1; have := h.m
 unfold RS.un RS.uv
 by_cases c : ft <= 256
 ·obtain ⟨e0,e1⟩ := Q.ch_range h.q (ft:=ft) (by omega) (by omega)
  simp only [if_pos c]
  exact ⟨⟨hq,h.w,by simp only; omega,by simp only; omega,by simp only; omega⟩,e0,e1⟩
 ·obtain ⟨b0,b1,_⟩ := ub_range (ft:=ft) (by omega) (by omega)
  obtain ⟨u0,u1,_⟩ := uv_range (b:=b) h.q s.w (ft:=ft) (by omega) (by omega)
  simp only [if_neg c]
  refine ⟨⟨hq,W.next_ok hb h.w (by omega),by simp only; omega,by simp only; omega,by simp only; omega⟩,?_,?_⟩
  ·split <;> omega
  ·split <;> omega
theorem RS.un_F (hb : Bytes b) (hl : b.length < 140737488351233) {s : RS} {k : Nat} (h : s.Ok k) (hk : k <= 1000) {ft : Int} (f0 : 1 < ft) (f1 : ft <= 1000) (hN : 300 <= N) :
  Rc.uint.F N ft s.q.rng s.q.val s.q.last (fr b s.q.m) (fr b s.w.k) s.w.win (s.w.wai : Int) s.ct s.bad b = some (s.uv b ft,(s.un b ft).q.rng,(s.un b ft).q.val,(s.un b ft).q.last,fr b (s.un b ft).q.m,fr b (s.un b ft).w.k,(s.un b ft).w.win,((s.un b ft).w.wai : Int),(s.un b ft).ct,(s.un b ft).bad) /\
  ∀ eq,∃ eq',Rc.ruint.F N ft s.q.rng s.q.val s.q.last (fr b s.q.m) (fr b s.w.k) s.w.win (s.w.wai : Int) s.ct eq s.bad b = some (s.uv b ft,(s.un b ft).q.rng,(s.un b ft).q.val,(s.un b ft).q.last,fr b (s.un b ft).q.m,fr b (s.un b ft).w.k,(s.un b ft).w.win,((s.un b ft).w.wai : Int),(s.un b ft).ct,eq',(s.un b ft).bad) := by
 obtain ⟨t0,t1⟩ := RS.ct_rg h (by omega)
 have hm := (Q.un_m b s.q ft).1
 by_cases c : ft <= 256
 ·simp only [RS.un,RS.uv,if_pos c]
  rw [uint_small hb hl h.q f0 c t0 (by omega) hN,ct_of hm]
  refine ⟨rfl,fun eq => ?_⟩
  obtain ⟨eq',e⟩ := ruint_small (N:=N) (b:=b) (back:=fr b s.w.k) (wait:=s.w.win) (waiting:=(s.w.wai : Int)) (eq:=eq) (bad:=s.bad) hb hl h.q f0 c t0 (by omega) hN
  refine ⟨eq',?_⟩
  rw [e,ct_of hm]
 ·simp only [RS.un,RS.uv,if_neg c]
  rw [uint_great hb hl h.q h.w (by omega) (by omega) t0 (by omega) hN,ct_of hm]
  have e : ∀ x y z : Int,x + y + z = x + z + y := fun x y z => by omega
  refine ⟨by rw [e],fun eq => ?_⟩
  obtain ⟨eq',e'⟩ := ruint_great (N:=N) (b:=b) (eq:=eq) (bad:=s.bad) hb hl h.q h.w (ft:=ft) (by omega) (by omega) t0 (by omega) hN
  refine ⟨eq',?_⟩
  rw [e',ct_of hm,e]
def two14 (b : List Int) : Nat -> RS -> List Int -> RS × List Int
 | 0,s,o => (s,o)
 | n + 1,s,o => two14 b n (s.sy b (icdfT 4)) (o ++ [(s.q.sk (icdfT 4) : Int) - 4])
theorem two14_facts (hb : Bytes b) : ∀ (n k : Nat) (s : RS) (o : List Int),s.Ok k -> (∀ x ∈ o,-4 <= x /\ x <= 4) -> (two14 b n s o).1.Ok (k + n) /\ (two14 b n s o).1.w = s.w /\ (two14 b n s o).1.bad = s.bad /\ (two14 b n s o).2.length = o.length + n /\ (∀ x ∈ (two14 b n s o).2,-4 <= x /\ x <= 4)
 | 0,k,s,o,h,ho => ⟨h,rfl,rfl,rfl,ho⟩
 | n + 1,k,s,o,h,ho => by
  have hs := (Q.sk_spec h.q g4).1
  rw [len4] at hs
  obtain ⟨a1,a2,a3,a4,a5⟩ := two14_facts hb n (k + 1) (s.sy b (icdfT 4)) (o ++ [(s.q.sk (icdfT 4) : Int) - 4]) (RS.sy_ok hb h g4) (fun x hx => by
   rcases List.mem_append.1 hx with hx | hx
   ·exact ho x hx
   ·simp only [List.mem_singleton] at hx; omega)
  simp only [two14]
  refine ⟨by rw [show k + (n + 1) = k + 1 + n by omega]; exact a1,a2,a3,by rw [a4]; simp; omega,a5⟩
theorem voiced_two (hb : Bytes b) (hl : True -> b.length < 140737488351233) (hN : 30000 <= N) {rate kind one btw : Int} {fresh : Bool} : ∀ (nn n i k : Nat) (s : RS) (o : List Int) (eq : Int),s.Ok k -> k + n <= 1000 -> i + n = ord14 rate -> o.length = i -> n < nn ->
  ∃ eq',Rc.rvoiced.loop5 N nn rate (fr b s.w.k) s.w.win (s.w.wai : Int) kind one btw s.bad fresh b (i : Int) s.q.rng s.q.val s.q.last (fr b s.q.m) s.ct eq o [] [] [] =
   some ((two14 b n s o).1.q.rng,(two14 b n s o).1.q.val,(two14 b n s o).1.q.last,fr b (two14 b n s o).1.q.m,(two14 b n s o).1.ct,eq',(two14 b n s o).2,[],[],[])
 | 0,n,i,k,s,o,_,_,_,_,_,h => by omega
 | nn + 1,0,i,k,s,o,eq,h,hk,hi,hoi,_ => by
  refine ⟨eq,?_⟩
  unfold Rc.rvoiced.loop5
  simp only [br_dec,chkI_same,chkB_same,chkL_same]
  rw [rorder_F,obind_of,if_neg (by omega)]
  rfl
 | nn + 1,n + 1,i,k,s,o,eq,h,hk,hi,hoi,hn => by
  have hs := (Q.sk_spec h.q g4).1
  rw [len4] at hs
  have := ord14_le rate
  obtain ⟨t0,t1⟩ := RS.ct_rg h (by omega)
  obtain ⟨eq1,e1⟩ := (rsymbol_F (N:=N) (b:=b) (back:=fr b s.w.k) (wait:=s.w.win) (waiting:=(s.w.wai : Int)) (eq:=eq) (bad:=s.bad) hb (hl trivial) h.q (icdfT 4) t0 (by omega) (by omega)).1 g4
  obtain ⟨eq2,e2⟩ := voiced_two (rate:=rate) (kind:=kind) (one:=one) (btw:=btw) (fresh:=fresh) hb hl hN nn n (i + 1) (k + 1) (s.sy b (icdfT 4)) (o ++ [(s.q.sk (icdfT 4) : Int) - 4]) eq1 (RS.sy_ok hb h g4) (by omega) (by omega) (by simp; omega) (by omega)
  refine ⟨eq2,?_⟩
  unfold Rc.rvoiced.loop5
  simp only [br_dec,chkI_same,chkB_same,chkL_same]
  rw [rorder_F,obind_of,if_pos (by omega),icdf_F,obind_of,e1,obind_of]
  simp only
  rw [chk_pos (by simp; omega),i64 (x:=(s.q.sk (icdfT 4) : Int) - 4) (by omega) (by omega),i64 (x:=(i : Int) + 1) (by omega) (by omega),ct_of (Q.sy_m b s.q (icdfT 4)).1]
  exact e2
def gn14 (b : List Int) (f : Bool) (s : RS) (was : Int) : Int × RS :=
 if f = true then (8 * (s.q.sk (icdfT 1) : Int) + (s.q.sy b (icdfT 1)).ch 8,(s.sy b (icdfT 1)).un b 8) else (c63 (c63 was + (s.q.sk (icdfT 2) : Int) - 8),s.sy b (icdfT 2))
def gns14 (b : List Int) : Nat -> Bool -> RS -> Int -> List Int -> RS × List Int
 | 0,_,s,_,o => (s,o)
 | n + 1,f,s,was,o => gns14 b n false (gn14 b f s was).2 (gn14 b f s was).1 (o ++ [(gn14 b f s was).1])
theorem gn14_facts (hb : Bytes b) {f : Bool} {s : RS} {k : Nat} (h : s.Ok k) (was : Int) : (gn14 b f s was).2.Ok (k + 2) /\ 0 <= (gn14 b f s was).1 /\ (gn14 b f s was).1 <= 63 /\ (gn14 b f s was).2.w = s.w /\ (gn14 b f s was).2.bad = s.bad := by
 unfold gn14
 cases f with
 | true =>
  have hs := (Q.sk_spec h.q g1).1
  rw [len1] at hs
  have h1 := RS.sy_ok hb h g1
  obtain ⟨h2,_,_⟩ := RS.un_ok hb h1 (ft:=8) (by omega) (by omega)
  obtain ⟨e0,e1⟩ := Q.ch_range h1.q (ft:=8) (by omega) (by omega)
  simp only [RS.sy] at e0 e1
  exact ⟨h2,by simp; omega,by simp; omega,rfl,rfl⟩
 | false =>
  have := c63_range (c63 was + (s.q.sk (icdfT 2) : Int) - 8)
  exact ⟨(RS.sy_ok hb h g2).mono (by omega),by simpa using this.1,by simpa using this.2,rfl,rfl⟩
theorem gns14_facts (hb : Bytes b) : ∀ (n k : Nat) (f : Bool) (s : RS) (was : Int) (o : List Int),s.Ok k -> (∀ x ∈ o,0 <= x /\ x <= 63) -> (gns14 b n f s was o).1.Ok (k + 2 * n) /\ (gns14 b n f s was o).1.w = s.w /\ (gns14 b n f s was o).1.bad = s.bad /\ (gns14 b n f s was o).2.length = o.length + n /\ (∀ x ∈ (gns14 b n f s was o).2,0 <= x /\ x <= 63)
 | 0,k,f,s,was,o,h,ho => ⟨h,rfl,rfl,rfl,ho⟩
 | n + 1,k,f,s,was,o,h,ho => by
  obtain ⟨c1,c2,c3,c4,c5⟩ := gn14_facts (f:=f) hb h was
  obtain ⟨a1,a2,a3,a4,a5⟩ := gns14_facts hb n (k + 2) false (gn14 b f s was).2 (gn14 b f s was).1 (o ++ [(gn14 b f s was).1]) c1 (fun x hx => by
   rcases List.mem_append.1 hx with hx | hx
   ·exact ho x hx
   ·simp only [List.mem_singleton] at hx; omega)
  simp only [gns14]
  exact ⟨by rw [show k + 2 * (n + 1) = k + 2 + 2 * n by omega]; exact a1,a2.trans c4,a3.trans c5,by rw [a4]; simp; omega,a5⟩
theorem voiced_gains (hb : Bytes b) (hl : True -> b.length < 140737488351233) (hN : 30000 <= N) {ms : Int} {cnt : Nat} (hms : ms.tdiv 5 = (cnt : Int)) {kind one btw : Int} {fresh : Bool} {two : List Int} : ∀ (nn n i k : Nat) (s : RS) (was : Int) (o : List Int) (eq : Int),s.Ok k -> k + 2 * n <= 1000 -> i + n = cnt -> cnt <= 100 -> o.length = i -> n < nn ->
  ∃ eq',Rc.rvoiced.loop10 N nn ms kind one btw fresh b was (i : Int) s.q.rng s.q.val s.q.last (fr b s.q.m) (fr b s.w.k) s.w.win (s.w.wai : Int) s.ct eq s.bad two o [] [] =
   some ((gns14 b n (decide (i = 0) && fresh) s was o).1.q.rng,(gns14 b n (decide (i = 0) && fresh) s was o).1.q.val,(gns14 b n (decide (i = 0) && fresh) s was o).1.q.last,fr b (gns14 b n (decide (i = 0) && fresh) s was o).1.q.m,fr b s.w.k,s.w.win,(s.w.wai : Int),(gns14 b n (decide (i = 0) && fresh) s was o).1.ct,eq',s.bad,two,(gns14 b n (decide (i = 0) && fresh) s was o).2,[],[])
 | 0,n,i,k,s,was,o,_,_,_,_,_,_,h => by omega
 | nn + 1,0,i,k,s,was,o,eq,h,hk,hi,ho,hoi,_ => by
  refine ⟨eq,?_⟩
  unfold Rc.rvoiced.loop10
  simp only [br_dec,chkI_same,chkB_same,chkL_same]
  rw [hms,i64 (by omega) (by omega),if_neg (by omega)]
  rfl
 | nn + 1,n + 1,i,k,s,was,o,eq,h,hk,hi,ho,hoi,hn => by
  obtain ⟨t0,t1⟩ := RS.ct_rg h (by omega)
  obtain ⟨c1,c2,c3,c4,c5⟩ := gn14_facts (f:=decide (i = 0) && fresh) hb h was
  have ih := fun eq => voiced_gains (kind:=kind) (one:=one) (btw:=btw) (fresh:=fresh) (two:=two) (cnt:=cnt) hb hl hN hms nn n (i + 1) (k + 2) (gn14 b (decide (i = 0) && fresh) s was).2 (gn14 b (decide (i = 0) && fresh) s was).1 (o ++ [(gn14 b (decide (i = 0) && fresh) s was).1]) eq c1 (by omega) (by omega) ho (by simp; omega) (by omega)
  rw [show (decide (i + 1 = 0) && fresh) = false by simp,c4,c5] at ih
  simp only [gns14]
  obtain ⟨w0,w1⟩ := c63_range was
  have hs2 := (Q.sk_spec h.q g2).1
  rw [len2] at hs2
  obtain ⟨eq1,hsy⟩ := (rsymbol_F (N:=N) (b:=b) (back:=fr b s.w.k) (wait:=s.w.win) (waiting:=(s.w.wai : Int)) (eq:=eq) (bad:=s.bad) hb (hl trivial) h.q (icdfT 2) t0 (by omega) (by omega)).1 g2
  rw [ct_of (Q.sy_m b s.q (icdfT 2)).1] at hsy
  unfold Rc.rvoiced.loop10
  simp only [br_dec,br_beq,chkI_same,chkB_same,chkL_same]
  rw [hms,i64 (x:=(cnt : Int)) (by omega) (by omega),if_pos (by omega)]
  by_cases h0 : i = 0
  ·subst h0
   rw [if_pos (show ((0 : Nat) : Int) = 0 from rfl)]
   cases fresh with
   | true =>
    have hs1 := (Q.sk_spec h.q g1).1
    rw [len1] at hs1
    have h1 := RS.sy_ok hb h g1
    obtain ⟨f0,f1⟩ := Q.ch_range h1.q (ft:=8) (by omega) (by omega)
    simp only [RS.sy] at f0 f1
    obtain ⟨eq3,e3⟩ := (rsymbol_F (N:=N) (b:=b) (back:=fr b s.w.k) (wait:=s.w.win) (waiting:=(s.w.wai : Int)) (eq:=eq) (bad:=s.bad) hb (hl trivial) h.q (icdfT 1) t0 (by omega) (by omega)).1 g1
    rw [ct_of (Q.sy_m b s.q (icdfT 1)).1] at e3
    obtain ⟨eq4,e4⟩ := (RS.un_F (N:=N) hb (hl trivial) h1 (by omega) (ft:=8) (by omega) (by omega) (by omega)).2 eq3
    obtain ⟨eq5,e5⟩ := ih eq4
    refine ⟨eq5,?_⟩
    rw [br_true,icdf_F,obind_of,e3,obind_of]
    simp only
    have e4' : Rc.ruint.F N 8 (s.q.sy b (icdfT 1)).rng (s.q.sy b (icdfT 1)).val (s.q.sy b (icdfT 1)).last (fr b (s.q.sy b (icdfT 1)).m) (fr b s.w.k) s.w.win (s.w.wai : Int) (s.C + 8 * ((s.q.sy b (icdfT 1)).m : Int)) eq3 s.bad b = _ := e4
    rw [e4',obind_of]
    simp only [decide_true,Bool.true_and] at e5 ⊢
    have e6 : RS.uv b (s.sy b (icdfT 1)) 8 = (s.q.sy b (icdfT 1)).ch 8 := by simp [RS.uv,RS.sy]
    rw [chk_pos (by simp; omega),i64 (x:=((0 : Nat) : Int) + 1) (by omega) (by omega),e6,i64 (x:=8 * (s.q.sk (icdfT 1) : Int)) (by omega) (by omega),i64 (x:=8 * (s.q.sk (icdfT 1) : Int) + _) (by omega) (by omega)]
    simp only [gn14,if_true] at e5 ⊢
    exact e5
   | false =>
    obtain ⟨eq5,e5⟩ := ih eq1
    refine ⟨eq5,?_⟩
    rw [br_false,rclamp63,obind_of,icdf_F,obind_of,hsy,obind_of]
    simp only [Bool.and_false] at e5 ⊢
    rw [i64 (x:=c63 was + (s.q.sk (icdfT 2) : Int)) (by omega) (by omega),i64 (x:=c63 was + (s.q.sk (icdfT 2) : Int) - 8) (by omega) (by omega),rclamp63,obind_of,chk_pos (by simp; omega),i64 (x:=((0 : Nat) : Int) + 1) (by omega) (by omega)]
    simp only [gn14,Bool.false_eq_true,if_false] at e5 ⊢
    exact e5
  ·obtain ⟨eq5,e5⟩ := ih eq1
   refine ⟨eq5,?_⟩
   rw [if_neg (by omega),rclamp63,obind_of,icdf_F,obind_of,hsy,obind_of]
   simp only [h0,decide_false,Bool.false_and] at e5 ⊢
   rw [i64 (x:=c63 was + (s.q.sk (icdfT 2) : Int)) (by omega) (by omega),i64 (x:=c63 was + (s.q.sk (icdfT 2) : Int) - 8) (by omega) (by omega),rclamp63,obind_of,chk_pos (by simp; omega),i64 (x:=(i : Int) + 1) (by omega) (by omega)]
   simp only [gn14,Bool.false_eq_true,if_false] at e5 ⊢
   exact e5
end
end Go.Pl
/-
 Layer 14: what repeats, pulses; a frame is read as a whole.
 Conditions: none.
-/
namespace Go.Pl
open Go.Eng Go.Proofs
theorem obind_step {X Y : Type} {x : Option X} {v : X} {k : X -> Option Y} {r : Option Y} (h : x = some v) (h2 : k v = r) : obind x k = r := by rw [h]; exact h2
section
variable {N : Nat} {b : List Int}
def ltp14 (b : List Int) (lo ft : Int) : Nat -> RS -> List (List Int) -> RS × List (List Int)
 | 0,s,o => (s,o)
 | n + 1,s,o => ltp14 b lo ft n ((s.un b ft).sy b (icdfT 6)) (o ++ [[lo + s.uv b ft,((s.un b ft).q.sk (icdfT 6) : Int)]])
def GoodLtp (lo hi : Int) (r : List Int) : Prop := ∃ a t,r = [a,t] /\ lo <= a /\ a <= hi /\ 0 <= t /\ t <= 7
theorem ltp14_facts (hb : Bytes b) {lo ft : Int} (f0 : 1 < ft) (f1 : ft <= 1000) : ∀ (n k : Nat) (s : RS) (o : List (List Int)),s.Ok k -> (∀ r ∈ o,GoodLtp lo (lo + ft - 1) r) -> (ltp14 b lo ft n s o).1.Ok (k + 2 * n) /\ (ltp14 b lo ft n s o).2.length = o.length + n /\ (∀ r ∈ (ltp14 b lo ft n s o).2,GoodLtp lo (lo + ft - 1) r)
 | 0,k,s,o,h,ho => ⟨h,rfl,ho⟩
 | n + 1,k,s,o,h,ho => by
  obtain ⟨h1,u0,u1⟩ := RS.un_ok hb h f0 f1
  have hs := (Q.sk_spec h1.q g6).1
  rw [len6] at hs
  obtain ⟨a1,a2,a3⟩ := ltp14_facts hb f0 f1 n (k + 2) _ (o ++ [[lo + s.uv b ft,((s.un b ft).q.sk (icdfT 6) : Int)]]) (RS.sy_ok hb h1 g6) (fun r hr => by
   rcases List.mem_append.1 hr with hr | hr
   ·exact ho r hr
   ·simp only [List.mem_singleton] at hr; exact ⟨_,_,hr,by omega,by omega,by omega,by omega⟩)
  simp only [ltp14]
  exact ⟨by rw [show k + 2 * (n + 1) = k + 2 + 2 * n by omega]; exact a1,by rw [a2]; simp; omega,a3⟩
def lw14 (rate : Int) : Int := hi8 rate - lo8 rate + 1
theorem lw14_of {rate : Int} (h : rate = 8000 \/ rate = 16000) : 1 < lw14 rate /\ lw14 rate <= 1000 /\ lo8 rate ≠ 0 /\ 0 <= lo8 rate /\ lo8 rate <= 32 /\ hi8 rate <= 288 /\ lo8 rate <= hi8 rate := by
 rcases h with rfl | rfl <;> decide
theorem voiced_ltps (hb : Bytes b) (hl : True -> b.length < 140737488351233) (hN : 30000 <= N) {rate : Int} (hr : rate = 8000 \/ rate = 16000) {ms : Int} {cnt : Nat} (hms : ms.tdiv 5 = (cnt : Int)) {kind one btw : Int} {fresh : Bool} {two gains : List Int} : ∀ (nn n i k : Nat) (s : RS) (o : List (List Int)) (eq : Int),s.Ok k -> k + 2 * n <= 800 -> i + n = cnt -> cnt <= 100 -> o.length = i -> n < nn ->
  ∃ eq',Rc.rvoiced.loop20 N nn ms (lo8 rate) (hi8 rate) kind one btw fresh b (i : Int) s.q.rng s.q.val s.q.last (fr b s.q.m) (fr b s.w.k) s.w.win (s.w.wai : Int) s.ct eq s.bad two gains (o.map fun r => r.headD 0) (o.map fun r => r.tail.headD 0) =
   some ((ltp14 b (lo8 rate) (lw14 rate) n s o).1.q.rng,(ltp14 b (lo8 rate) (lw14 rate) n s o).1.q.val,(ltp14 b (lo8 rate) (lw14 rate) n s o).1.q.last,fr b (ltp14 b (lo8 rate) (lw14 rate) n s o).1.q.m,fr b (ltp14 b (lo8 rate) (lw14 rate) n s o).1.w.k,(ltp14 b (lo8 rate) (lw14 rate) n s o).1.w.win,((ltp14 b (lo8 rate) (lw14 rate) n s o).1.w.wai : Int),(ltp14 b (lo8 rate) (lw14 rate) n s o).1.ct,eq',(ltp14 b (lo8 rate) (lw14 rate) n s o).1.bad,two,gains,(ltp14 b (lo8 rate) (lw14 rate) n s o).2.map fun r => r.headD 0,(ltp14 b (lo8 rate) (lw14 rate) n s o).2.map fun r => r.tail.headD 0)
 | 0,n,i,k,s,o,eq,_,_,_,_,_,h => by omega
 | nn + 1,0,i,k,s,o,eq,h,hk,hi,ho,hoi,_ => by
  refine ⟨eq,?_⟩
  unfold Rc.rvoiced.loop20
  simp only [br_dec,chkI_same,chkB_same,chkL_same]
  rw [hms,i64 (x:=(cnt : Int)) (by omega) (by omega),if_neg (by omega)]
  rfl
 | nn + 1,n + 1,i,k,s,o,eq,h,hk,hi,ho,hoi,hn => by
  obtain ⟨f0,f1,z0,l0,l1,l2,l3⟩ := lw14_of hr
  obtain ⟨h1,u0,u1⟩ := RS.un_ok hb h f0 f1
  obtain ⟨t0,t1⟩ := RS.ct_rg h1 (by omega)
  obtain ⟨eq1,e1⟩ := (RS.un_F (N:=N) hb (hl trivial) h (by omega) f0 f1 (by omega)).2 eq
  obtain ⟨eq2,e2⟩ := (rsymbol_F (N:=N) (b:=b) (back:=fr b (s.un b (lw14 rate)).w.k) (wait:=(s.un b (lw14 rate)).w.win) (waiting:=((s.un b (lw14 rate)).w.wai : Int)) (eq:=eq1) (bad:=(s.un b (lw14 rate)).bad) hb (hl trivial) h1.q (icdfT 6) t0 (by omega) (by omega)).1 g6
  rw [ct_of (Q.sy_m b _ (icdfT 6)).1] at e2
  obtain ⟨eq3,e3⟩ := voiced_ltps (kind:=kind) (one:=one) (btw:=btw) (fresh:=fresh) (two:=two) (gains:=gains) hb hl hN hr hms nn n (i + 1) (k + 2) ((s.un b (lw14 rate)).sy b (icdfT 6)) (o ++ [[lo8 rate + s.uv b (lw14 rate),((s.un b (lw14 rate)).q.sk (icdfT 6) : Int)]]) eq2 (RS.sy_ok hb h1 g6) (by omega) (by omega) ho (by simp; omega) (by omega)
  refine ⟨eq3,?_⟩
  unfold Rc.rvoiced.loop20
  simp only [br_dec,chkI_same,chkB_same,chkL_same]
  have e : hi8 rate - lo8 rate + 1 = lw14 rate := rfl
  rw [hms,i64 (x:=(cnt : Int)) (by omega) (by omega),if_pos (by omega),i64 (x:=hi8 rate - lo8 rate) (by omega) (by omega),i64 (x:=hi8 rate - lo8 rate + 1) (by omega) (by omega),e,e1,obind_of]
  simp only
  rw [chk_pos (by simp; omega),icdf_F,obind_of,e2,obind_of]
  simp only
  rw [chk_pos (by simp; omega),i64 (x:=(i : Int) + 1) (by omega) (by omega),i64 (x:=lo8 rate + s.uv b (lw14 rate)) (by omega) (by omega)]
  simp only [ltp14]
  rw [List.map_append,List.map_append] at e3
  exact e3
def RS.pu (b : List Int) (m : Nat) (s : RS) : RS := ⟨(blks b m s.q s.w s.C []).1,(blks b m s.q s.w s.C []).2.1,(blks b m s.q s.w s.C []).2.2.1,s.bad⟩
def RS.pl (b : List Int) (m : Nat) (s : RS) : List Int := (blks b m s.q s.w s.C []).2.2.2
theorem RS.pu_facts (hb : Bytes b) {s : RS} {k : Nat} (h : s.Ok k) {m : Nat} (m0 : 1 <= m) (m1 : m <= 30) : (s.pu b m).Ok (k + 17 * m) /\ (s.pl b m).length = 16 * m /\ goodB (s.pl b m) = true := by
 obtain ⟨a1,a2,a3,a4,a5,a6,a7⟩ := blks_facts hb m s.q s.w s.C [] h.q h.w
 have hg := blks_good hb m s.q s.w s.C [] 0 h.q h.w rfl rfl
 have := h.c0; have := h.c1; have := h.m
 simp only [List.length_nil,Nat.zero_add] at a7 hg
 refine ⟨⟨a1,a2,by simp only [RS.pu]; omega,by simp only [RS.pu]; omega,by simp only [RS.pu]; omega⟩,a7,?_⟩
 unfold goodB mayB RS.pl
 rw [a7,show 16 * m / 16 = m by omega,hg]
 simp
 omega
theorem rpulses_S (hb : Bytes b) (hl : b.length < 140737488351233) {s : RS} {k : Nat} (h : s.Ok k) (hk : k <= 500) {m : Nat} (m0 : 1 <= m) (m1 : m <= 30) (hN : 30000 <= N) (eq : Int) :
  ∃ eq',Rc.rpulses.F N (16 * (m : Int)) s.q.rng s.q.val s.q.last (fr b s.q.m) (fr b s.w.k) s.w.win (s.w.wai : Int) s.ct eq s.bad b =
   some ((s.pu b m).q.rng,(s.pu b m).q.val,(s.pu b m).q.last,fr b (s.pu b m).q.m,fr b (s.pu b m).w.k,(s.pu b m).w.win,((s.pu b m).w.wai : Int),(s.pu b m).ct,eq',(s.pu b m).bad,s.pl b m) := by
 have := h.c0; have := h.c1; have := h.m
 obtain ⟨eq',h2⟩ := rpulses_loop (N:=N) (bad:=s.bad) hb (fun _ => hl) hN (n:=16 * m) (by omega) N m s.q s.w s.C [] eq h.q h.w (by omega) (fun _ => by omega) (by omega) (by simp) (by omega)
 rw [show ((16 * m : Nat) : Int) = 16 * (m : Int) by omega] at h2
 refine ⟨eq',?_⟩
 unfold Rc.rpulses.F
 simp only [chkL_same]
 rw [h2,obind_of]
 rfl
def cnt14 (ms : Int) : Nat := (ms / 5).toNat
def blk14 (rate ms : Int) : Nat := (rate * ms / 16000).toNat
structure FR where
 fresh : Bool
 kind : Int
 one : Int
 two : List Int
 btw : Int
 gains : List Int
 ltps : List (List Int)
 pulses : List Int
 s : RS
def fr14 (b : List Int) (rate ms was : Int) (s0 : RS) : FR :=
 let fresh := s0.w.val b 1 == 1
 let s1 := s0.bit b
 let kind : Int := s1.q.sk (icdfT 0)
 let s2 := s1.sy b (icdfT 0)
 let s3 := s2.sy b (icdfT 3)
 let T := two14 b (ord14 rate) s3 []
 let s5 := T.1.un b 5
 let G := gns14 b (cnt14 ms) fresh s5 was []
 let L := if kind = 2 then ltp14 b (lo8 rate) (lw14 rate) (cnt14 ms) G.1 [] else (G.1,[])
 { fresh := fresh,kind := kind,one := s2.q.sk (icdfT 3),two := T.2,btw := T.1.uv b 5,gains := G.2,ltps := L.2,pulses := if kind = 0 then [] else L.1.pl b (blk14 rate ms),s := if kind = 0 then L.1 else L.1.pu b (blk14 rate ms) }
def May14 (rate ms : Int) : Prop := (rate = 8000 \/ rate = 16000) /\ (ms = 10 \/ ms = 20)
instance (rate ms : Int) : Decidable (May14 rate ms) := by unfold May14; infer_instance
theorem may_facts {rate ms : Int} (h : May14 rate ms) : 1 <= ord14 rate /\ ms.tdiv 5 = (cnt14 ms : Int) /\ 2 <= cnt14 ms /\ cnt14 ms <= 4 /\ (rate * ms).tdiv 1000 = 16 * (blk14 rate ms : Int) /\ 1 <= blk14 rate ms /\ blk14 rate ms <= 30 /\ IntKind.i64.wrap (rate * ms) = rate * ms := by
 obtain ⟨rfl | rfl,rfl | rfl⟩ := h <;> decide
theorem fr14_facts (hb : Bytes b) {rate ms : Int} (hm : May14 rate ms) (was : Int) {s : RS} {k : Nat} (h : s.Ok k) (hk : k <= 100) :
  (fr14 b rate ms was s).s.Ok (k + 600) /\ 0 <= (fr14 b rate ms was s).kind /\ (fr14 b rate ms was s).kind <= 2 /\ 0 <= (fr14 b rate ms was s).one /\ (fr14 b rate ms was s).one <= 15 /\
  (fr14 b rate ms was s).two.length = ord14 rate /\ (∀ x ∈ (fr14 b rate ms was s).two,-4 <= x /\ x <= 4) /\ 0 <= (fr14 b rate ms was s).btw /\ (fr14 b rate ms was s).btw <= 4 /\
  (fr14 b rate ms was s).gains.length = cnt14 ms /\ (∀ x ∈ (fr14 b rate ms was s).gains,0 <= x /\ x <= 63) /\
  ((fr14 b rate ms was s).kind ≠ 2 -> (fr14 b rate ms was s).ltps = []) /\ ((fr14 b rate ms was s).kind = 2 -> (fr14 b rate ms was s).ltps.length = cnt14 ms) /\ (∀ r ∈ (fr14 b rate ms was s).ltps,GoodLtp (lo8 rate) (hi8 rate) r) /\
  ((fr14 b rate ms was s).kind = 0 -> (fr14 b rate ms was s).pulses = []) /\ ((fr14 b rate ms was s).kind ≠ 0 -> (fr14 b rate ms was s).pulses.length = 16 * blk14 rate ms /\ goodB (fr14 b rate ms was s).pulses = true) := by
 obtain ⟨m1,m2,m3,m4,m5,m6,m7,m8⟩ := may_facts hm
 obtain ⟨f0,f1,z0,l0,l1,l2,l3⟩ := lw14_of hm.1
 have ho := ord14_le rate
 have h1 := RS.bit_ok hb h
 have k0 := (Q.sk_spec h1.q g0).1
 rw [len0] at k0
 have h2 := RS.sy_ok hb h1 g0
 have k3 := (Q.sk_spec h2.q g3).1
 rw [len3] at k3
 have h3 := RS.sy_ok hb h2 g3
 obtain ⟨a1,a2,a3,a4,a5⟩ := two14_facts hb (ord14 rate) (k + 3) _ [] h3 (fun x hx => by simp at hx)
 obtain ⟨h5,u0,u1⟩ := RS.un_ok hb a1 (ft:=5) (by omega) (by omega)
 obtain ⟨c1,c2,c3,c4,c5⟩ := gns14_facts hb (cnt14 ms) _ (s.w.val b 1 == 1) _ was [] h5 (fun x hx => by simp at hx)
 have hL := ltp14_facts (lo:=lo8 rate) hb f0 f1 (cnt14 ms) _ _ [] c1 (fun x hx => by simp at hx)
 have elw : lo8 rate + lw14 rate - 1 = hi8 rate := by unfold lw14; omega
 rw [elw] at hL
 obtain ⟨d1,d2,d3⟩ := hL
 have key : ∀ (L : RS × List (List Int)),L = (if ((s.bit b).q.sk (icdfT 0) : Int) = 2 then ltp14 b (lo8 rate) (lw14 rate) (cnt14 ms) (gns14 b (cnt14 ms) (s.w.val b 1 == 1) ((two14 b (ord14 rate) (((s.bit b).sy b (icdfT 0)).sy b (icdfT 3)) []).1.un b 5) was []).1 [] else ((gns14 b (cnt14 ms) (s.w.val b 1 == 1) ((two14 b (ord14 rate) (((s.bit b).sy b (icdfT 0)).sy b (icdfT 3)) []).1.un b 5) was []).1,[])) ->
   L.1.Ok (k + 40) /\ (((s.bit b).q.sk (icdfT 0) : Int) ≠ 2 -> L.2 = []) /\ (((s.bit b).q.sk (icdfT 0) : Int) = 2 -> L.2.length = cnt14 ms) /\ (∀ r ∈ L.2,GoodLtp (lo8 rate) (hi8 rate) r) := by
  intro L hL
  by_cases hk2 : ((s.bit b).q.sk (icdfT 0) : Int) = 2
  ·rw [if_pos hk2] at hL
   subst hL
   exact ⟨d1.mono (by omega),fun h => absurd hk2 h,fun _ => by rw [d2]; simp,d3⟩
  ·rw [if_neg hk2] at hL
   subst hL
   exact ⟨c1.mono (by omega),fun _ => rfl,fun h => absurd h hk2,fun r hr => by simp at hr⟩
 obtain ⟨e1,e2,e3,e4⟩ := key _ rfl
 unfold fr14
 simp only
 generalize (if ((s.bit b).q.sk (icdfT 0) : Int) = 2 then _ else _ : RS × List (List Int)) = L at e1 e2 e3 e4 ⊢
 obtain ⟨p1,p2,p3⟩ := RS.pu_facts hb e1 m6 m7
 refine ⟨?_,by omega,by omega,by omega,by omega,by rw [a4]; simp,a5,u0,by omega,by rw [c4]; simp,c5,e2,e3,e4,fun h => by rw [if_pos h],fun h => by rw [if_neg h]; exact ⟨p2,p3⟩⟩
 split
 ·exact e1.mono (by omega)
 ·exact p1.mono (by omega)
end
end Go.Pl
/-
 Layer 14: the reference's reading; frames compared; what a frame may be.
 Conditions: none.
-/
namespace Go.Pl
open Go.Eng Go.Proofs
theorem chkR_same {Y : Type} (x : List (List Int)) (k : Option Y) : chkR x x k = k := by simp [chkR]
theorem ints14_loop {N : Nat} {a b e1 e2 : List Int} (hab : a.length = b.length) (hl : a.length <= 1000000) (s : Bool) : ∀ (nn k : Nat),k <= a.length -> a.length - k < nn ->
  (a.drop k = b.drop k -> Rc.ints14.loop4 N nn e1 e2 a b k s = some (.inl s)) /\ (a.drop k ≠ b.drop k -> Rc.ints14.loop4 N nn e1 e2 a b k s = some (.inr false))
 | 0,k,_,h => by omega
 | nn + 1,k,hk,h => by
  unfold Rc.ints14.loop4
  simp only [br_dec,br_bne,chkL_same]
  by_cases c : k < a.length
  ·have ih := ints14_loop (N:=N) (e1:=e1) (e2:=e2) hab hl s nn (k + 1) (by omega) (by omega)
   rw [show ((k + 1 : Nat) : Int) = (k : Int) + 1 by omega] at ih
   rw [if_pos (by omega),chk_pos (by omega),chk_pos (by omega),Int.toNat_natCast,i64 (by omega) (by omega),drop_cons c,drop_cons (show k < b.length by omega)]
   by_cases d : a.getD k 0 = b.getD k 0
   ·rw [if_pos d,d]
    refine ⟨fun he => ih.1 (List.cons.inj he).2,fun he => ih.2 fun h2 => he (by rw [h2])⟩
   ·rw [if_neg d]
    exact ⟨fun he => absurd (List.cons.inj he).1 d,fun _ => rfl⟩
  ·rw [if_neg (by omega)]
   exact ⟨fun _ => rfl,fun he => absurd (by rw [List.drop_eq_nil_of_le (by omega),List.drop_eq_nil_of_le (by omega)]) he⟩
theorem ints14_F {N : Nat} (a b : List Int) (hl : a.length <= 1000000) (hN : a.length < N) : Rc.ints14.F N a b = some (decide (a = b)) := by
 unfold Rc.ints14.F
 rw [br_bne]
 by_cases c : a.length = b.length
 ·rw [if_pos (by omega)]
  have h := ints14_loop (N:=N) (e1:=a) (e2:=b) c hl false N 0 (by omega) (by omega)
  rw [show ((0 : Nat) : Int) = 0 from rfl,List.drop_zero,List.drop_zero] at h
  by_cases d : a = b
  ·rw [h.1 d,osum_inl,decide_eq_true d]
  ·rw [h.2 d,decide_eq_false d]; rfl
 ·rw [if_neg (by omega),decide_eq_false (fun h => c (by rw [h]))]
theorem same14_loop {N : Nat} {a b e1 e2 : List Int} (hab : a.length = b.length) (hl : a.length <= 1000000) (s : Bool) : ∀ (nn k : Nat),k <= a.length -> a.length - k < nn ->
  (a.drop k = b.drop k -> Rc.same14.loop4 N nn e1 e2 a b k s = some (.inl s)) /\ (a.drop k ≠ b.drop k -> Rc.same14.loop4 N nn e1 e2 a b k s = some (.inr false))
 | 0,k,_,h => by omega
 | nn + 1,k,hk,h => by
  unfold Rc.same14.loop4
  simp only [br_dec,br_bne,chkL_same]
  by_cases c : k < a.length
  ·have ih := same14_loop (N:=N) (e1:=e1) (e2:=e2) hab hl s nn (k + 1) (by omega) (by omega)
   rw [show ((k + 1 : Nat) : Int) = (k : Int) + 1 by omega] at ih
   rw [if_pos (by omega),chk_pos (by omega),chk_pos (by omega),Int.toNat_natCast,i64 (by omega) (by omega),drop_cons c,drop_cons (show k < b.length by omega)]
   by_cases d : a.getD k 0 = b.getD k 0
   ·rw [if_pos d,d]
    refine ⟨fun he => ih.1 (List.cons.inj he).2,fun he => ih.2 fun h2 => he (by rw [h2])⟩
   ·rw [if_neg d]
    exact ⟨fun he => absurd (List.cons.inj he).1 d,fun _ => rfl⟩
  ·rw [if_neg (by omega)]
   exact ⟨fun _ => rfl,fun he => absurd (by rw [List.drop_eq_nil_of_le (by omega),List.drop_eq_nil_of_le (by omega)]) he⟩
theorem same14_F {N : Nat} (a b : List Int) (hl : a.length <= 1000000) (hN : a.length < N) : Rc.same14.F N a b = some (decide (a = b)) := by
 unfold Rc.same14.F
 rw [br_bne]
 by_cases c : a.length = b.length
 ·rw [if_pos (by omega)]
  have h := same14_loop (N:=N) (e1:=a) (e2:=b) c hl false N 0 (by omega) (by omega)
  rw [show ((0 : Nat) : Int) = 0 from rfl,List.drop_zero,List.drop_zero] at h
  by_cases d : a = b
  ·rw [h.1 d,osum_inl,decide_eq_true d]
  ·rw [h.2 d,decide_eq_false d]; rfl
 ·rw [if_neg (by omega),decide_eq_false (fun h => c (by rw [h]))]
theorem lgood_loop {N : Nat} {e0 : Int} {e1 : Int} {e2 : List Int} {l : List Int} (hl : l.length <= 1000000) (s : Bool) : ∀ (nn k : Nat),k <= l.length -> l.length - k < nn ->
  Rc.lgood.loop4 N nn e0 e1 e2 (l.length : Int) l (k : Int) s = if ∀ x ∈ l.drop k,(-4 : Int) <= x /\ x <= 4 then some (.inl s) else some (.inr false)
 | 0,k,_,h => by omega
 | nn + 1,k,hk,h => by
  unfold Rc.lgood.loop4
  simp only [br_dec,chkL_same,chkI_same]
  by_cases c : k < l.length
  ·have ih := lgood_loop (N:=N) (e0:=e0) (e1:=e1) (e2:=e2) hl s nn (k + 1) (by omega) (by omega)
   rw [show ((k + 1 : Nat) : Int) = (k : Int) + 1 by omega] at ih
   rw [if_pos (by omega),chk_pos (by omega),Int.toNat_natCast,i64 (by omega) (by omega),drop_cons c]
   by_cases d : l.getD k 0 < -4
   ·rw [if_pos d,if_neg (fun h => by have := (h _ (List.mem_cons_self ..)).1; omega)]; rfl
   ·rw [if_neg d]
    by_cases d' : l.getD k 0 > 4
    ·rw [if_pos d',if_neg (fun h => by have := (h _ (List.mem_cons_self ..)).2; omega)]; rfl
    ·rw [if_neg d',ih]
     have e : (∀ x ∈ l.getD k 0 :: l.drop (k + 1),(-4 : Int) <= x /\ x <= 4) ↔ ∀ x ∈ l.drop (k + 1),(-4 : Int) <= x /\ x <= 4 :=
      ⟨fun h x hx => h x (List.mem_cons_of_mem _ hx),fun h x hx => (List.mem_cons.1 hx).elim (fun he => by rw [he]; omega) (fun hx => h x hx)⟩
     simp only [e]
  ·rw [if_neg (by omega),if_pos (fun x hx => by rw [List.drop_eq_nil_of_le (by omega)] at hx; simp at hx)]
theorem spgood_loop {N : Nat} {e0 : Int} {e1 : Int} {e2 : Int} {e3 : Int} {e4 : Int} {e5 : Bool} {e6 : List Int} {e7 : List Int} {e8 : List Int} {e9 : List (List Int)} {l : List Int} (hl : l.length <= 1000000) (s : Bool) : ∀ (nn k : Nat),k <= l.length -> l.length - k < nn ->
  Rc.spgood.loop4 N nn e0 e1 e2 e3 e4 e5 e6 e7 e8 e9 (l.length : Int) l (k : Int) s = if ∀ x ∈ l.drop k,(0 : Int) <= x /\ x <= 63 then some (.inl s) else some (.inr false)
 | 0,k,_,h => by omega
 | nn + 1,k,hk,h => by
  unfold Rc.spgood.loop4
  simp only [br_dec,chkL_same,chkI_same]
  by_cases c : k < l.length
  ·have ih := spgood_loop (N:=N) (e0:=e0) (e1:=e1) (e2:=e2) (e3:=e3) (e4:=e4) (e5:=e5) (e6:=e6) (e7:=e7) (e8:=e8) (e9:=e9) hl s nn (k + 1) (by omega) (by omega)
   rw [show ((k + 1 : Nat) : Int) = (k : Int) + 1 by omega] at ih
   rw [if_pos (by omega),chk_pos (by omega),Int.toNat_natCast,i64 (by omega) (by omega),drop_cons c]
   by_cases d : l.getD k 0 < 0
   ·rw [if_pos d,if_neg (fun h => by have := (h _ (List.mem_cons_self ..)).1; omega)]; rfl
   ·rw [if_neg d]
    by_cases d' : l.getD k 0 > 63
    ·rw [if_pos d',if_neg (fun h => by have := (h _ (List.mem_cons_self ..)).2; omega)]; rfl
    ·rw [if_neg d',ih]
     have e : (∀ x ∈ l.getD k 0 :: l.drop (k + 1),(0 : Int) <= x /\ x <= 63) ↔ ∀ x ∈ l.drop (k + 1),(0 : Int) <= x /\ x <= 63 :=
      ⟨fun h x hx => h x (List.mem_cons_of_mem _ hx),fun h x hx => (List.mem_cons.1 hx).elim (fun he => by rw [he]; omega) (fun hx => h x hx)⟩
     simp only [e]
  ·rw [if_neg (by omega),if_pos (fun x hx => by rw [List.drop_eq_nil_of_le (by omega)] at hx; simp at hx)]
theorem getM_drop {l : List (List Int)} {k : Nat} (h : k < l.length) : l.drop k = l.getD k [] :: l.drop (k + 1) := by
 rw [List.drop_eq_getElem_cons h]; simp [List.getD_eq_getElem?_getD,List.getElem?_eq_getElem h]
theorem spltps_loop {N : Nat} {e0 : Int} {e1 e2 e3 : Int} {e4 : Bool} {e5 e6 e7 : List Int} {e8 : List (List Int)} {lo hi : Int} {l : List (List Int)} (hl : l.length <= 1000000) (s : Bool) : ∀ (nn k : Nat),k <= l.length -> l.length - k < nn ->
  Rc.spltps.loop5 N nn e0 e1 e2 e3 e4 e5 e6 e7 e8 lo hi (l.length : Int) l (k : Int) s = if ∀ r ∈ l.drop k,lo <= r.headD 0 /\ r.headD 0 <= hi /\ 0 <= r.tail.headD 0 /\ r.tail.headD 0 <= 7 then some (.inl s) else some (.inr false)
 | 0,k,_,h => by omega
 | nn + 1,k,hk,h => by
  unfold Rc.spltps.loop5
  simp only [br_dec,chkL_same,chkI_same,chkR_same]
  by_cases c : k < l.length
  ·have ih := spltps_loop (N:=N) (e0:=e0) (e1:=e1) (e2:=e2) (e3:=e3) (e4:=e4) (e5:=e5) (e6:=e6) (e7:=e7) (e8:=e8) (lo:=lo) (hi:=hi) hl s nn (k + 1) (by omega) (by omega)
   rw [show ((k + 1 : Nat) : Int) = (k : Int) + 1 by omega] at ih
   have hf : Rc.tfilters.F N = some 8 := rfl
   rw [if_pos (by omega),chk_pos (by omega),Int.toNat_natCast,i64 (by omega) (by omega),getM_drop c,hf]
   simp only [obind_of]
   by_cases d1 : (l.getD k []).headD 0 < lo
   ·rw [if_pos d1,if_neg (fun h => by have := (h _ (List.mem_cons_self ..)).1; omega)]; rfl
   rw [if_neg d1]
   by_cases d2 : (l.getD k []).headD 0 > hi
   ·rw [if_pos d2,if_neg (fun h => by have := (h _ (List.mem_cons_self ..)).2.1; omega)]; rfl
   rw [if_neg d2]
   by_cases d3 : (l.getD k []).tail.headD 0 < 0
   ·rw [if_pos d3,if_neg (fun h => by have := (h _ (List.mem_cons_self ..)).2.2.1; omega)]; rfl
   rw [if_neg d3]
   by_cases d4 : (l.getD k []).tail.headD 0 >= 8
   ·rw [if_pos d4,if_neg (fun h => by have := (h _ (List.mem_cons_self ..)).2.2.2; omega)]; rfl
   rw [if_neg d4,ih]
   have e : (∀ r ∈ l.getD k [] :: l.drop (k + 1),lo <= r.headD 0 /\ r.headD 0 <= hi /\ 0 <= r.tail.headD 0 /\ r.tail.headD 0 <= 7) ↔ ∀ r ∈ l.drop (k + 1),lo <= r.headD 0 /\ r.headD 0 <= hi /\ 0 <= r.tail.headD 0 /\ r.tail.headD 0 <= 7 :=
    ⟨fun h x hx => h x (List.mem_cons_of_mem _ hx),fun h x hx => by
     rcases List.mem_cons.1 hx with rfl | hx
     ·omega
     ·exact h x hx⟩
   simp only [e]
  ·rw [if_neg (by omega),if_pos (fun x hx => by rw [List.drop_eq_nil_of_le (by omega)] at hx; simp at hx)]
structure GoodF (rate ms kind one btw : Int) (two gains pulses : List Int) (ltps : List (List Int)) : Prop where
 may : May14 rate ms
 kd : 0 <= kind /\ kind <= 2
 on : 0 <= one /\ one <= 15
 tw : two.length = ord14 rate /\ ∀ x ∈ two,-4 <= x /\ x <= 4
 bt : 0 <= btw /\ btw <= 4
 ga : gains.length = cnt14 ms /\ ∀ x ∈ gains,0 <= x /\ x <= 63
 lt : if kind = 2 then ltps.length = cnt14 ms /\ ∀ r ∈ ltps,lo8 rate <= r.headD 0 /\ r.headD 0 <= hi8 rate /\ 0 <= r.tail.headD 0 /\ r.tail.headD 0 <= 7 else ltps = []
 pu : if kind = 0 then pulses = [] else pulses.length = 16 * blk14 rate ms /\ goodB pulses = true
section
variable {N : Nat}
theorem spgood_F (hN : 30000 <= N) {rate ms kind one btw : Int} {fresh : Bool} {two gains pulses : List Int} {ltps : List (List Int)} (l3 : ltps.length <= 1000000) :
  (GoodF rate ms kind one btw two gains pulses ltps -> Rc.spgood.F N rate ms kind one btw fresh two gains pulses ltps = some true) /\
  (¬ GoodF rate ms kind one btw two gains pulses ltps -> ltps.length < N -> Rc.spgood.F N rate ms kind one btw fresh two gains pulses ltps = some false) := by
 have main : ltps.length < N -> (GoodF rate ms kind one btw two gains pulses ltps -> Rc.spgood.F N rate ms kind one btw fresh two gains pulses ltps = some true) /\ (¬ GoodF rate ms kind one btw two gains pulses ltps -> Rc.spgood.F N rate ms kind one btw fresh two gains pulses ltps = some false) := by
  intro n3
  unfold Rc.spgood.F
  simp only [br_dec,br_bne,br_not,chkI_same,chkL_same,spmay_F,obind_of,decide_eq_true_eq]
  rcases Classical.em (¬ (May14 rate ms)) with c1 | c1
  ·rw [if_neg (by simpa [May14] using c1)]
   exact ⟨fun h => absurd h.may c1,fun _ => rfl⟩
  have c1 := Classical.not_not.1 c1
  obtain ⟨m1,m2,m3,m4,m5,m6,m7,m8⟩ := may_facts c1
  have ho := ord14_le rate
  rw [if_pos (by simpa [May14] using c1)]
  by_cases c2 : kind < 0
  ·rw [if_pos c2]; exact ⟨fun h => by have := h.kd; omega,fun _ => rfl⟩
  rw [if_neg c2]
  by_cases c3 : kind > 2
  ·rw [if_pos c3]; exact ⟨fun h => by have := h.kd; omega,fun _ => rfl⟩
  rw [if_neg c3,torder_F,obind_of]
  have hlg : Rc.lgood.F N (ord14 rate : Int) one two = some (decide (0 <= one /\ one <= 15 /\ two.length = ord14 rate /\ ∀ x ∈ two,-4 <= x /\ x <= 4)) := by
   have hu : ∃ u : Int,Rc.lunit.F N (ord14 rate : Int) = some u /\ u ≠ 0 := by
    rcases c1.1 with rfl | rfl
    ·exact ⟨400,rfl,by decide⟩
    ·exact ⟨250,rfl,by decide⟩
   obtain ⟨u,hu1,hu2⟩ := hu
   unfold Rc.lgood.F
   simp only [br_dec,br_bne,br_beq]
   rw [hu1,obind_of,if_neg hu2]
   by_cases d1 : one < 0
   ·rw [if_pos d1,decide_eq_false (by omega)]
   rw [if_neg d1]
   by_cases d2 : one >= 16
   ·rw [if_pos d2,decide_eq_false (by omega)]
   rw [if_neg d2]
   by_cases d3 : two.length = ord14 rate
   ·rw [if_pos (by omega)]
    have := lgood_loop (N:=N) (e0:=(ord14 rate : Int)) (e1:=one) (e2:=two) (l:=two) (by omega) false N 0 (by omega) (by omega)
    rw [show ((0 : Nat) : Int) = 0 from rfl,List.drop_zero] at this
    rw [this]
    by_cases d4 : ∀ x ∈ two,-4 <= x /\ x <= 4
    ·rw [if_pos d4,osum_inl,decide_eq_true ⟨by omega,by omega,d3,d4⟩]
    ·rw [if_neg d4,decide_eq_false (fun h => d4 h.2.2.2)]; rfl
   ·rw [if_neg (by omega),decide_eq_false (fun h => d3 h.2.2.1)]
  rw [hlg,obind_of]
  rcases Classical.em (¬ (0 <= one /\ one <= 15 /\ two.length = ord14 rate /\ ∀ x ∈ two,-4 <= x /\ x <= 4)) with c4 | c4
  ·rw [if_neg (by simpa using c4)]
   exact ⟨fun h => absurd ⟨h.on.1,h.on.2,h.tw⟩ c4,fun _ => rfl⟩
  have c4 := Classical.not_not.1 c4
  rw [if_pos (decide_eq_true c4)]
  by_cases c5 : btw < 0
  ·rw [if_pos c5]; exact ⟨fun h => by have := h.bt; omega,fun _ => rfl⟩
  rw [if_neg c5]
  by_cases c6 : btw >= 5
  ·rw [if_pos c6]; exact ⟨fun h => by have := h.bt; omega,fun _ => rfl⟩
  rw [if_neg c6,m2,i64 (x:=(cnt14 ms : Int)) (by omega) (by omega)]
  rcases Classical.em (¬ (gains.length = cnt14 ms)) with c7 | c7
  ·rw [if_neg (by omega)]; exact ⟨fun h => absurd h.ga.1 c7,fun _ => rfl⟩
  have c7 := Classical.not_not.1 c7
  rw [if_pos (by omega)]
  have hgl := spgood_loop (N:=N) (e0:=rate) (e1:=ms) (e2:=kind) (e3:=one) (e4:=btw) (e5:=fresh) (e6:=two) (e7:=gains) (e8:=pulses) (e9:=ltps) (l:=gains) (by omega) false N 0 (by omega) (by omega)
  rw [show ((0 : Nat) : Int) = 0 from rfl,List.drop_zero] at hgl
  rw [hgl]
  rcases Classical.em (¬ (∀ x ∈ gains,0 <= x /\ x <= 63)) with c8 | c8
  ·rw [if_neg c8]; exact ⟨fun h => absurd h.ga.2 c8,fun _ => rfl⟩
  have c8 := Classical.not_not.1 c8
  rw [if_pos c8,osum_inl]
  have hlt : Rc.spltps.F N rate kind one btw fresh two gains pulses ltps = some (decide (if kind = 2 then ltps.length = cnt14 ms /\ ∀ r ∈ ltps,lo8 rate <= r.headD 0 /\ r.headD 0 <= hi8 rate /\ 0 <= r.tail.headD 0 /\ r.tail.headD 0 <= 7 else ltps = [])) := by
   unfold Rc.spltps.F
   simp only [br_bne,glags_F,obind_of,chkL_same,chkI_same,chkB_same,chkR_same]
   by_cases d1 : kind = 2
   ·rw [if_pos d1]
    have := spltps_loop (N:=N) (e0:=rate) (e1:=kind) (e2:=one) (e3:=btw) (e4:=fresh) (e5:=two) (e6:=gains) (e7:=pulses) (e8:=ltps) (lo:=lo8 rate) (hi:=hi8 rate) (l:=ltps) l3 false N 0 (by omega) (by omega)
    rw [show ((0 : Nat) : Int) = 0 from rfl,List.drop_zero] at this
    rw [this]
    simp only [if_pos d1]
    by_cases d2 : ∀ r ∈ ltps,lo8 rate <= r.headD 0 /\ r.headD 0 <= hi8 rate /\ 0 <= r.tail.headD 0 /\ r.tail.headD 0 <= 7
    ·rw [if_pos d2,osum_inl,c7]
     congr 1
     by_cases d3 : ltps.length = cnt14 ms
     ·rw [decide_eq_true ⟨d3,d2⟩]; simp [d3]
     ·rw [decide_eq_false (fun h => d3 h.1)]; simp; omega
    ·rw [if_neg d2,decide_eq_false (fun h => d2 h.2)]; rfl
   ·rw [if_neg d1]
    simp only [if_neg d1]
    congr 1
    by_cases d3 : ltps = []
    ·simp [d3]
    ·rw [decide_eq_false d3]
     have : ltps.length ≠ 0 := fun h => d3 (List.eq_nil_of_length_eq_zero h)
     simp; omega
  rw [hlt,obind_of]
  rcases Classical.em (¬ ((if kind = 2 then ltps.length = cnt14 ms /\ ∀ r ∈ ltps,lo8 rate <= r.headD 0 /\ r.headD 0 <= hi8 rate /\ 0 <= r.tail.headD 0 /\ r.tail.headD 0 <= 7 else ltps = []))) with c9 | c9
  ·rw [decide_eq_false c9,br_false]; exact ⟨fun h => absurd h.lt c9,fun _ => rfl⟩
  have c9 := Classical.not_not.1 c9
  rw [decide_eq_true c9,br_true]
  have hpu : Rc.sppulses.F N rate ms kind one btw fresh two gains pulses ltps = some (decide (if kind = 0 then pulses = [] else pulses.length = 16 * blk14 rate ms /\ goodB pulses = true)) := by
   unfold Rc.sppulses.F
   simp only [br_beq,chkL_same,chkI_same,chkB_same,chkR_same]
   by_cases d1 : kind = 0
   ·rw [if_pos d1]
    simp only [if_pos d1]
    congr 1
    by_cases d3 : pulses = []
    ·simp [d3]
    ·rw [decide_eq_false d3]
     have : pulses.length ≠ 0 := fun h => d3 (List.eq_nil_of_length_eq_zero h)
     simp; omega
   ·rw [if_neg d1,m8,m5,i64 (x:=16 * (blk14 rate ms : Int)) (by omega) (by omega)]
    simp only [if_neg d1]
    by_cases d2 : pulses.length = 16 * blk14 rate ms
    ·rw [if_pos (by omega),good9_F _ hN,obind_of]
     congr 1
     cases hg : goodB pulses with
     | true => rw [decide_eq_true ⟨d2,rfl⟩]
     | false => rw [decide_eq_false (fun h => by simp at h)]
    ·rw [if_neg (by omega),decide_eq_false (fun h => d2 h.1)]
  rw [hpu,obind_of]
  by_cases c10 : (if kind = 0 then pulses = [] else pulses.length = 16 * blk14 rate ms /\ goodB pulses = true)
  ·rw [decide_eq_true c10]
   exact ⟨fun _ => rfl,fun h => absurd ⟨c1,by omega,⟨c4.1,c4.2.1⟩,c4.2.2,by omega,⟨c7,c8⟩,c9,c10⟩ h⟩
  ·rw [decide_eq_false c10]
   exact ⟨fun h => absurd h.pu c10,fun _ => rfl⟩
 refine ⟨fun h => ?_,fun h n3 => (main n3).2 h⟩
 have ho := ord14_le rate
 have hc := (may_facts h.may).2.2.2.1
 have h1 := h.tw.1
 have h2 := h.ga.1
 have h3 : ltps.length <= 4 := by
  have := h.lt
  split at this
  ·omega
  ·rw [this]; simp
 exact (main (by omega)).1 h
theorem own14_loop {k1 o1 b1 k2 o2 b2 : Int} {f1 f2 : Bool} {t1 g1 p1 t2 g2 p2 : List Int} {l : List (List Int)} (hl : l.length <= 1000000) : ∀ (nn k : Nat),k <= l.length -> l.length - k < nn ->
  Rc.own14.loop3 N nn k1 o1 b1 k2 o2 b2 f1 f2 t1 g1 p1 t2 g2 p2 l (k : Int) ((l.take k).map fun r => r.headD 0) ((l.take k).map fun r => r.tail.headD 0) = some (l.map fun r => r.headD 0,l.map fun r => r.tail.headD 0)
 | 0,k,_,h => by omega
 | nn + 1,k,hk,h => by
  unfold Rc.own14.loop3
  simp only [br_dec,chkL_same,chkI_same,chkB_same,chkR_same]
  by_cases c : k < l.length
  ·have ih := own14_loop (k1:=k1) (o1:=o1) (b1:=b1) (k2:=k2) (o2:=o2) (b2:=b2) (f1:=f1) (f2:=f2) (t1:=t1) (g1:=g1) (p1:=p1) (t2:=t2) (g2:=g2) (p2:=p2) hl nn (k + 1) (by omega) (by omega)
   rw [show ((k + 1 : Nat) : Int) = (k : Int) + 1 by omega] at ih
   have e : l.take (k + 1) = l.take k ++ [l.getD k []] := by
    rw [List.take_add_one]
    simp [List.getD_eq_getElem?_getD,List.getElem?_eq_getElem c]
   rw [e,List.map_append,List.map_append] at ih
   rw [if_pos (by omega),chk_pos (by omega),chk_pos (by simp; omega),chk_pos (by omega),chk_pos (by simp; omega),Int.toNat_natCast,i64 (by omega) (by omega)]
   exact ih
  ·rw [if_neg (by omega),List.take_of_length_le (by omega)]
theorem own14_F {kind one btw : Int} {fresh : Bool} {two gains pulses : List Int} {l : List (List Int)} (hl : l.length <= 1000000) (hN : l.length < N) :
  Rc.own14.F N kind one btw fresh two gains pulses l = some (kind,one,btw,fresh,two,gains,l.map (fun r => r.headD 0),l.map (fun r => r.tail.headD 0),pulses) := by
 unfold Rc.own14.F
 have := own14_loop (N:=N) (k1:=kind) (o1:=one) (b1:=btw) (k2:=kind) (o2:=one) (b2:=btw) (f1:=fresh) (f2:=fresh) (t1:=two) (g1:=gains) (p1:=pulses) (t2:=two) (g2:=gains) (p2:=pulses) hl N 0 (by omega) (by omega)
 refine obind_step this ?_
 rfl
theorem is14_yes {kind one btw : Int} {fresh : Bool} {two gains pulses : List Int} {l : List (List Int)} (h1 : two.length <= 20000) (h2 : gains.length <= 20000) (h3 : pulses.length <= 20000) (h4 : l.length <= 20000) (hN : 30000 <= N) :
  Rc.is14.F N kind one btw kind one btw fresh fresh two gains pulses two gains (l.map fun r => r.headD 0) (l.map fun r => r.tail.headD 0) pulses l = some true := by
 unfold Rc.is14.F
 rw [own14_F (by omega) (by omega),obind_of]
 simp only [beq_self_eq_true,br_true]
 rw [ints14_F _ _ (by omega) (by omega),obind_of,decide_eq_true rfl,br_true,ints14_F _ _ (by omega) (by omega),obind_of,decide_eq_true rfl,br_true,ints14_F _ _ (by simp; omega) (by simp; omega),obind_of,decide_eq_true rfl,br_true,ints14_F _ _ (by simp; omega) (by simp; omega),obind_of,decide_eq_true rfl,br_true,
  same14_F _ _ (by omega) (by omega),obind_of,decide_eq_true rfl]
end
end Go.Pl
