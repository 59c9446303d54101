/-
 Layer 9: how pulses lie in a block, read by both.
 Conditions: none.
-/
import Derived.Test.YtghbobmkkbdhpaaGreatPlBaseToPlRen5
import Derived.Test.YtghbobmkkbdhpaaGreatPlKnown9
import Derived.Test.YtghbobmkkbdhpaaGreatPlGaToPlGa2
import Derived.Test.YtghbobmkkbdhpaaGreatSpLaws
set_option linter.unusedVariables false
set_option linter.unusedSimpArgs false
namespace Go.Pl
open Go.Eng Go.Proofs
theorem ticdf9_F {N : Nat} (n : Int) : Rc.ticdf.F N n = some (icdfT n) := by
 unfold Rc.ticdf.F icdfT
 simp only [br_beq]
 repeat' split
 all_goals rfl
theorem len5 : (icdfT 5).length = 17 := rfl
theorem g5 : GoodT (icdfT 5) := icdf_good (by omega) (by omega)
def tot : List Int -> Int
 | [] => 0
 | x :: r => x + tot r
theorem tot_app (a b : List Int) : tot (a ++ b) = tot a + tot b := by
 induction a with
 | nil => simp [tot]
 | cons x a ih => simp only [List.cons_append,tot,ih]; omega
theorem ct_m {b : List Int} {C : Int} {q q' : Q} (h : q.m <= q'.m) : ct (C + 8 * (q.m : Int)) q q' = C + 8 * (q'.m : Int) := by
 unfold ct
 omega
def rdv (b : List Int) (q : Q) (ft : Int) : Int × Q := if ft <= 1 then (0,q) else (q.ch ft,q.un b ft)
theorem rdv_facts {b : List Int} (hb : Bytes b) {q : Q} (h : q.Ok) {ft : Int} (f0 : 1 <= ft) (f1 : ft <= 256) : 0 <= (rdv b q ft).1 /\ (rdv b q ft).1 < ft /\ (rdv b q ft).2.Ok /\ q.m <= (rdv b q ft).2.m /\ (rdv b q ft).2.m <= q.m + 4 := by
 unfold rdv
 split
 ·exact ⟨by simp only; omega,by simp only; omega,h,Nat.le_refl _,by simp only; omega⟩
 ·have := Q.ch_range h (ft:=ft) (by omega) (by omega)
  have hm := Q.un_m b q ft
  exact ⟨this.1,this.2,Q.un_ok hb h (by omega) (by omega),hm.1,hm.2⟩
section
variable {N : Nat} {b : List Int}
theorem uint_rdv {back window waiting C : Int} {bad : Bool} (hb : Bytes b) (hl : b.length < 140737488351233) {q : Q} (h : q.Ok) {ft : Int} (f1 : ft <= 256) (c0 : 0 <= C) (c1 : C + 8 * (q.m : Int) < 1099511627776) (hN : 300 <= N) :
  Rc.uint.F N ft q.rng q.val q.last (fr b q.m) back window waiting (C + 8 * (q.m : Int)) bad b =
   some ((rdv b q ft).1,(rdv b q ft).2.rng,(rdv b q ft).2.val,(rdv b q ft).2.last,fr b (rdv b q ft).2.m,back,window,waiting,C + 8 * ((rdv b q ft).2.m : Int),bad) := by
 unfold rdv
 split
 ·rw [uint_out (Or.inl (by assumption))]
 ·rw [uint_small hb hl h (by omega) f1 (by omega) c1 hN,ct_m (b:=b) (Q.un_m b q ft).1]
end
def shq (b : List Int) : Nat -> Int -> Q -> Q × List Int
 | 0,k,q => (q,[k])
 | d + 1,k,q =>
  ((shq b d (k - (rdv b q (k + 1)).1) (shq b d (rdv b q (k + 1)).1 (rdv b q (k + 1)).2).1).1,
   (shq b d (rdv b q (k + 1)).1 (rdv b q (k + 1)).2).2 ++ (shq b d (k - (rdv b q (k + 1)).1) (shq b d (rdv b q (k + 1)).1 (rdv b q (k + 1)).2).1).2)
theorem shq_facts {b : List Int} (hb : Bytes b) : ∀ (d : Nat) (k : Int) (q : Q),q.Ok -> 0 <= k -> k <= 16 ->
  (shq b d k q).1.Ok /\ q.m <= (shq b d k q).1.m /\ (shq b d k q).1.m + 4 <= q.m + 4 * 2 ^ d /\ (shq b d k q).2.length = 2 ^ d /\ (∀ x ∈ (shq b d k q).2,0 <= x /\ x <= 16) /\ tot (shq b d k q).2 = k
 | 0,k,q,h,k0,k1 => ⟨h,Nat.le_refl _,by simp [shq],rfl,fun x hx => by simp [shq] at hx; omega,by simp [shq,tot]⟩
 | d + 1,k,q,h,k0,k1 => by
  obtain ⟨r1,r2,r3,r4,r5⟩ := rdv_facts hb h (ft:=k + 1) (by omega) (by omega)
  obtain ⟨a1,a2,a3,a4,a5,a6⟩ := shq_facts hb d (rdv b q (k + 1)).1 (rdv b q (k + 1)).2 r3 r1 (by omega)
  obtain ⟨c1,c2,c3,c4,c5,c6⟩ := shq_facts hb d (k - (rdv b q (k + 1)).1) (shq b d (rdv b q (k + 1)).1 (rdv b q (k + 1)).2).1 a1 (by omega) (by omega)
  have hp : 2 ^ (d + 1) = 2 * 2 ^ d := by rw [Nat.pow_succ,Nat.mul_comm]
  have hp1 : 1 <= 2 ^ d := Nat.one_le_two_pow
  refine ⟨c1,by simp only [shq]; omega,by simp only [shq]; omega,by simp only [shq,List.length_append]; omega,fun x hx => ?_,by simp only [shq,tot_app]; omega⟩
  simp only [shq,List.mem_append] at hx
  rcases hx with hx | hx
  ·exact a5 x hx
  ·exact c5 x hx
theorem p2_16 {d : Nat} (h : d <= 4) : 2 ^ d <= 16 := by
 have : 2 ^ d <= 2 ^ 4 := Nat.pow_le_pow_right (by omega) h
 omega
section
variable {N : Nat} {b : List Int} {back window waiting C : Int} {bad : Bool}
theorem share9_G (hb : Bytes b) (hl : True -> b.length < 140737488351233) (hN : 300 <= N) (c0 : 0 <= C) (c1 : True -> C < 549755813888) {M : Nat} (hM : True -> M <= 1000000) : ∀ (nn d : Nat) (k : Int) (q : Q) (l : List Int),q.Ok -> 0 <= k -> k <= 16 -> l.length = 2 ^ d -> d <= 4 -> d < nn -> q.m + 4 * 2 ^ d <= M ->
  Rc.share9.G N nn k q.rng q.val q.last (fr b q.m) back window waiting (C + 8 * (q.m : Int)) bad b l =
   some ((shq b d k q).1.rng,(shq b d k q).1.val,(shq b d k q).1.last,fr b (shq b d k q).1.m,back,window,waiting,C + 8 * ((shq b d k q).1.m : Int),bad,(shq b d k q).2)
 | 0,d,k,q,l,_,_,_,_,_,h,_ => by omega
 | nn + 1,0,k,q,l,h,k0,k1,hd,_,_,_ => by
  unfold Rc.share9.G
  simp only [br_beq,chkL_same]
  rw [Nat.pow_zero] at hd
  rw [if_pos (by omega),chk_pos (by omega)]
  match l,hd with
  | [x],_ => rfl
 | nn + 1,d + 1,k,q,l,h,k0,k1,hd,hd4,hn,hm => by
  have hp : 2 ^ (d + 1) = 2 * 2 ^ d := by rw [Nat.pow_succ,Nat.mul_comm]
  have hp1 : 1 <= 2 ^ d := Nat.one_le_two_pow
  have hp2 := p2_16 hd4
  have c1' := c1 trivial
  have hl' := hl trivial
  have hM' := hM trivial
  obtain ⟨r1,r2,r3,r4,r5⟩ := rdv_facts hb h (ft:=k + 1) (by omega) (by omega)
  obtain ⟨a1,a2,a3,a4,a5,a6⟩ := shq_facts hb d (rdv b q (k + 1)).1 (rdv b q (k + 1)).2 r3 r1 (by omega)
  obtain ⟨e1,e2,e3,e4,e5,e6⟩ := shq_facts hb d (k - (rdv b q (k + 1)).1) (shq b d (rdv b q (k + 1)).1 (rdv b q (k + 1)).2).1 a1 (by omega) (by omega)
  have hH : IntKind.i64.wrap ((l.length : Int).tdiv 2) = ((2 ^ d : Nat) : Int) := by
   rw [tdiv_ediv (by omega),i64 (by omega) (by omega)]
   omega
  unfold Rc.share9.G
  simp only [br_beq,chkL_same,List.take_zero,List.nil_append,Nat.zero_add,Nat.sub_zero,List.drop_zero]
  rw [if_neg (by omega),i64 (x:=k + 1) (by omega) (by omega),uint_rdv hb hl' h (by omega) c0 (by omega) hN,obind_of]
  simp only [hH,Int.toNat_natCast]
  have ih1 := share9_G hb hl hN c0 c1 hM nn d (rdv b q (k + 1)).1 (rdv b q (k + 1)).2 (List.take (2 ^ d) l) r3 r1 (by omega) (by rw [List.length_take]; omega) (by omega) (by omega) (by omega)
  rw [chk_pos (by omega),chk_pos (by omega),ih1,obind_of]
  have hlen : ((shq b d (rdv b q (k + 1)).1 (rdv b q (k + 1)).2).2 ++ List.drop (2 ^ d) l).length = 2 * 2 ^ d := by rw [List.length_append,a4,List.length_drop]; omega
  have hH2 : IntKind.i64.wrap ((((shq b d (rdv b q (k + 1)).1 (rdv b q (k + 1)).2).2 ++ List.drop (2 ^ d) l).length : Int).tdiv 2) = ((2 ^ d : Nat) : Int) := by
   rw [hlen,tdiv_ediv (by omega),i64 (by omega) (by omega)]
   omega
  simp only [hH2,Int.toNat_natCast]
  simp only [hlen]
  have ih2 := share9_G hb hl hN c0 c1 hM nn d (k - (rdv b q (k + 1)).1) (shq b d (rdv b q (k + 1)).1 (rdv b q (k + 1)).2).1 (List.take (2 * 2 ^ d - 2 ^ d) (List.drop (2 ^ d) ((shq b d (rdv b q (k + 1)).1 (rdv b q (k + 1)).2).2 ++ List.drop (2 ^ d) l))) a1 (by omega) (by omega) (by rw [List.length_take,List.length_drop,hlen]; omega) (by omega) (by omega) (by omega)
  rw [chk_pos (by omega),chk_pos (by omega),i64 (x:=k - (rdv b q (k + 1)).1) (by omega) (by omega),ih2,obind_of,List.take_left' a4,List.drop_eq_nil_of_le (by omega),List.append_nil]
  rfl
end
end Go.Pl
/-
 Layer 9: signs and blocks, read by both.
 Conditions: none.
-/
namespace Go.Pl
open Go.Eng Go.Proofs
theorem getD_mid9 (A D : List Int) (v : Int) (R : List Int) : (A ++ (D ++ v :: R)).getD (A.length + D.length) 0 = v := by
 rw [<- List.append_assoc,<- List.length_append,List.getD_eq_getElem?_getD,List.getElem?_append_right (Nat.le_refl _)]
 simp
theorem set_mid9 (A D : List Int) (v x : Int) (R : List Int) : (A ++ (D ++ v :: R)).set (A.length + D.length) x = A ++ ((D ++ [x]) ++ R) := by
 rw [<- List.append_assoc,<- List.length_append,List.set_append_right _ _ (Nat.le_refl _)]
 simp
def sgn (b : List Int) : List Int -> W -> List Int × W × Int
 | [],w => ([],w,0)
 | v :: r,w => if v > 0 then ((if w.val b 1 = 1 then 0 - v else v) :: (sgn b r (w.next b 1)).1,(sgn b r (w.next b 1)).2.1,1 + (sgn b r (w.next b 1)).2.2) else (v :: (sgn b r w).1,(sgn b r w).2.1,(sgn b r w).2.2)
theorem sgn_facts {b : List Int} (hb : Bytes b) : ∀ (X : List Int) (w : W),w.Ok -> (sgn b X w).2.1.Ok /\ (sgn b X w).1.length = X.length /\ 0 <= (sgn b X w).2.2 /\ (sgn b X w).2.2 <= X.length
 | [],w,h => ⟨h,rfl,by simp [sgn],by simp [sgn]⟩
 | v :: r,w,h => by
  simp only [sgn]
  split
  ·obtain ⟨a1,a2,a3,a4⟩ := sgn_facts hb r (w.next b 1) (W.next_ok hb h (by omega))
   exact ⟨a1,by simp [a2],by simp only; omega,by simp only [List.length_cons]; omega⟩
  ·obtain ⟨a1,a2,a3,a4⟩ := sgn_facts hb r w h
   exact ⟨a1,by simp [a2],a3,by simp only [List.length_cons]; omega⟩
section
variable {N : Nat} {b : List Int} {bad : Bool}
theorem rsigns_loop (hb : Bytes b) (hl : True -> b.length < 140737488351233) (hN : 300 <= N) {A B : List Int} {rng val last front : Int} {T : Nat} (hT : True -> T <= 1000) (hA : True -> A.length <= 1000) : ∀ (nn : Nat) (R D : List Int) (w : W) (c : Int),w.Ok -> D.length + R.length = T -> (∀ x ∈ R,0 <= x /\ x <= 16) -> R.length < nn -> 0 <= c -> (True -> c + R.length < 1099511600000) ->
  Rc.read9.loop10 N nn (A.length : Int) (T : Int) (T : Int) rng val last front bad b (D.length : Int) (fr b w.k) w.win (w.wai : Int) c (A ++ (D ++ (R ++ B))) =
   some (fr b (sgn b R w).2.1.k,(sgn b R w).2.1.win,((sgn b R w).2.1.wai : Int),c + (sgn b R w).2.2,A ++ (D ++ ((sgn b R w).1 ++ B)))
 | 0,R,D,w,c,_,_,_,h,_,_ => by omega
 | nn + 1,[],D,w,c,hw,hd,hR,h,c0,c1 => by
  simp only [List.length_nil] at hd
  unfold Rc.read9.loop10
  simp only [br_dec,br_beq,chkI_same,chkB_same,chkL_same]
  rw [if_neg (by omega)]
  simp only [sgn,Int.add_zero]
  simp [chkN]
 | nn + 1,v :: R,D,w,c,hw,hd,hR,h,c0,c1 => by
  have c1 := c1 trivial
  have hl' := hl trivial
  have hT' := hT trivial
  have hA' := hA trivial
  simp only [List.length_cons] at hd h c1
  have hv := hR v (by simp)
  have hR' : ∀ x ∈ R,0 <= x /\ x <= 16 := fun x hx => hR x (by simp [hx])
  unfold Rc.read9.loop10
  simp only [br_dec,br_beq,chkI_same,chkB_same,chkL_same,Int.toNat_natCast]
  have e1 : (A ++ (D ++ (v :: R ++ B))).getD (A.length + D.length) 0 = v := getD_mid9 A D v (R ++ B)
  have chkN_same : ∀ {Y : Type} (x : Nat) (k : Option Y),chkN x x k = k := fun x k => by simp [chkN]
  simp only [chkN_same]
  rw [if_pos (by omega),chk_pos (by omega),i64 (x:=(D.length : Int) + 1) (by omega) (by omega)]
  simp only [e1]
  by_cases cv : v > 0
  ·rw [if_pos cv,bits_F hb hl' hw 1 c0 (by omega) hN,if_pos (by omega),obind_of,show (1 : Int).toNat = 1 from rfl]
   simp only
   rw [i64 (x:=0 - v) (by omega) (by omega)]
   have ih := fun D' (hD' : D'.length + R.length = T) => rsigns_loop hb hl hN (A:=A) (B:=B) (rng:=rng) (val:=val) (last:=last) (front:=front) hT hA nn R D' (w.next b 1) (c + 1) (W.next_ok hb hw (by omega)) hD' hR' (by omega) (by omega) (fun _ => by omega)
   have hs : sgn b (v :: R) w = ((if w.val b 1 = 1 then 0 - v else v) :: (sgn b R (w.next b 1)).1,(sgn b R (w.next b 1)).2.1,1 + (sgn b R (w.next b 1)).2.2) := by simp only [sgn]; rw [if_pos cv]
   rw [hs]
   simp only
   by_cases cs : w.val b 1 = 1
   ·rw [if_pos cs,chk_pos (by omega),chk_pos (by omega),if_pos cs]
    have e2 : (A ++ (D ++ (v :: R ++ B))).set (A.length + D.length) (0 - v) = A ++ ((D ++ [0 - v]) ++ (R ++ B)) := set_mid9 A D v (0 - v) (R ++ B)
    rw [e2]
    have := ih (D ++ [0 - v]) (by simp; omega)
    rw [List.length_append,List.length_singleton,show ((D.length + 1 : Nat) : Int) = (D.length : Int) + 1 by omega] at this
    rw [this]
    simp [Int.add_assoc]
   ·rw [if_neg cs,if_neg cs]
    have := ih (D ++ [v]) (by simp; omega)
    rw [List.length_append,List.length_singleton,show ((D.length + 1 : Nat) : Int) = (D.length : Int) + 1 by omega,show A ++ ((D ++ [v]) ++ (R ++ B)) = A ++ (D ++ (v :: R ++ B)) by simp] at this
    rw [this]
    simp [Int.add_assoc]
  ·rw [if_neg cv]
   have hs : sgn b (v :: R) w = (v :: (sgn b R w).1,(sgn b R w).2.1,(sgn b R w).2.2) := by simp only [sgn]; rw [if_neg cv]
   rw [hs]
   have := rsigns_loop hb hl hN (A:=A) (B:=B) (rng:=rng) (val:=val) (last:=last) (front:=front) hT hA nn R (D ++ [v]) w c hw (by simp; omega) hR' (by omega) c0 (fun _ => by omega)
   rw [List.length_append,List.length_singleton,show ((D.length + 1 : Nat) : Int) = (D.length : Int) + 1 by omega,show A ++ ((D ++ [v]) ++ (R ++ B)) = A ++ (D ++ (v :: R ++ B)) by simp] at this
   rw [this]
   simp
end
def bsh (b : List Int) (q : Q) : Q × List Int := shq b 4 (q.sk (icdfT 5) : Int) (q.sy b (icdfT 5))
def blks (b : List Int) : Nat -> Q -> W -> Int -> List Int -> Q × W × Int × List Int
 | 0,q,w,C,o => (q,w,C,o)
 | n + 1,q,w,C,o => blks b n (bsh b q).1 (sgn b (bsh b q).2 w).2.1 (C + (sgn b (bsh b q).2 w).2.2) (o ++ (sgn b (bsh b q).2 w).1)
theorem bsh_facts {b : List Int} (hb : Bytes b) {q : Q} (h : q.Ok) : (bsh b q).1.Ok /\ q.m <= (bsh b q).1.m /\ (bsh b q).1.m <= q.m + 68 /\ (bsh b q).2.length = 16 /\ (∀ x ∈ (bsh b q).2,0 <= x /\ x <= 16) /\ tot (bsh b q).2 <= 16 := by
 have hs := (Q.sk_spec h g5).1
 rw [len5] at hs
 have hm := Q.sy_m b q (icdfT 5)
 obtain ⟨a1,a2,a3,a4,a5,a6⟩ := shq_facts hb 4 (q.sk (icdfT 5) : Int) (q.sy b (icdfT 5)) (Q.sy_ok hb h g5) (by omega) (by omega)
 refine ⟨a1,by unfold bsh; omega,by unfold bsh; omega,a4,a5,by unfold bsh; omega⟩
theorem blks_facts {b : List Int} (hb : Bytes b) : ∀ (n : Nat) (q : Q) (w : W) (C : Int) (o : List Int),q.Ok -> w.Ok ->
  (blks b n q w C o).1.Ok /\ (blks b n q w C o).2.1.Ok /\ q.m <= (blks b n q w C o).1.m /\ (blks b n q w C o).1.m <= q.m + 68 * n /\ C <= (blks b n q w C o).2.2.1 /\ (blks b n q w C o).2.2.1 <= C + 16 * n /\ (blks b n q w C o).2.2.2.length = o.length + 16 * n
 | 0,q,w,C,o,h,hw => ⟨h,hw,Nat.le_refl _,by simp [blks],by simp [blks],by simp [blks],by simp [blks]⟩
 | n + 1,q,w,C,o,h,hw => by
  obtain ⟨a1,a2,a3,a4,a5,a6⟩ := bsh_facts hb h
  obtain ⟨s1,s2,s3,s4⟩ := sgn_facts hb (bsh b q).2 w hw
  obtain ⟨i1,i2,i3,i4,i5,i6,i7⟩ := blks_facts hb n (bsh b q).1 (sgn b (bsh b q).2 w).2.1 (C + (sgn b (bsh b q).2 w).2.2) (o ++ (sgn b (bsh b q).2 w).1) a1 s1
  rw [List.length_append,s2,a4] at i7
  exact ⟨i1,i2,by simp only [blks]; omega,by simp only [blks]; omega,by simp only [blks]; omega,by simp only [blks]; omega,by simp only [blks]; omega⟩
section
variable {N : Nat} {b : List Int} {bad : Bool}
theorem read9_loop (hb : Bytes b) (hl : True -> b.length < 140737488351233) (hN : 30000 <= N) {n : Nat} (hn : n <= 480) : ∀ (nn m : Nat) (q : Q) (w : W) (C : Int) (o : List Int),q.Ok -> w.Ok -> 0 <= C -> (True -> C + 16 * m <= 100000) -> q.m + 68 * m <= 10000 -> o.length + 16 * m = n -> m < nn ->
  Rc.read9.loop5 N nn n b o.length q.rng q.val q.last (fr b q.m) (fr b w.k) w.win (w.wai : Int) (C + 8 * (q.m : Int)) bad (o ++ List.replicate (16 * m) 0) =
   some ((blks b m q w C o).1.rng,(blks b m q w C o).1.val,(blks b m q w C o).1.last,fr b (blks b m q w C o).1.m,fr b (blks b m q w C o).2.1.k,(blks b m q w C o).2.1.win,((blks b m q w C o).2.1.wai : Int),(blks b m q w C o).2.2.1 + 8 * ((blks b m q w C o).1.m : Int),bad,(blks b m q w C o).2.2.2)
 | 0,m,q,w,C,o,_,_,_,_,_,_,h => by omega
 | nn + 1,0,q,w,C,o,h,hw,c0,c1,hm,ho,h0 => by
  unfold Rc.read9.loop5
  simp only [br_dec,chkI_same,chkB_same,chkL_same]
  rw [if_neg (by omega)]
  simp [blks]
 | nn + 1,m + 1,q,w,C,o,h,hw,c0,c1,hm,ho,h0 => by
  have c1 := c1 trivial
  have hl' := hl trivial
  have hs := (Q.sk_spec h g5).1
  rw [len5] at hs
  have hq1 := Q.sy_ok hb h g5
  have hm1 := Q.sy_m b q (icdfT 5)
  obtain ⟨a1,a2,a3,a4,a5,a6⟩ := bsh_facts hb h
  obtain ⟨s1,s2,s3,s4⟩ := sgn_facts hb (bsh b q).2 w hw
  unfold Rc.read9.loop5
  simp only [br_dec,chkI_same,chkB_same,chkL_same]
  have hlen : (o ++ List.replicate (16 * (m + 1)) (0 : Int)).length = n := by simp; omega
  rw [if_pos (by omega),i64 (x:=(o.length : Int) + 16) (by omega) (by omega),chk_pos (by omega),chk_pos (by omega),ticdf9_F,obind_of,(symbol_F hb hl' h (icdfT 5) (by omega) (by omega) (by omega)).1 g5,obind_of]
  simp only
  rw [show ((o.length : Int) + 16).toNat = o.length + 16 by omega,Int.toNat_natCast,show o.length + 16 - o.length = 16 by omega,chk_pos (by omega),ct_m (b:=b) hm1.1]
  have hsh := share9_G (N:=N) (back:=fr b w.k) (window:=w.win) (waiting:=(w.wai : Int)) (C:=C) (bad:=bad) hb hl (by omega) c0 (fun _ => by omega) (M:=1000000) (fun _ => Nat.le_refl _) N 4 (q.sk (icdfT 5) : Int) (q.sy b (icdfT 5)) (List.take 16 (List.drop o.length (o ++ List.replicate (16 * (m + 1)) 0))) hq1 (by omega) (by omega) (by rw [List.length_take,List.length_drop,hlen]; omega) (by omega) (by omega) (by omega)
  have hsf : Rc.share9.F N (q.sk (icdfT 5) : Int) (q.sy b (icdfT 5)).rng (q.sy b (icdfT 5)).val (q.sy b (icdfT 5)).last (fr b (q.sy b (icdfT 5)).m) (fr b w.k) w.win (w.wai : Int) (C + 8 * ((q.sy b (icdfT 5)).m : Int)) bad b (List.take 16 (List.drop o.length (o ++ List.replicate (16 * (m + 1)) 0))) = _ := hsh
  rw [hsf,obind_of]
  simp only
  have hmid : List.take o.length (o ++ List.replicate (16 * (m + 1)) (0 : Int)) ++ ((shq b 4 (q.sk (icdfT 5) : Int) (q.sy b (icdfT 5))).2 ++ List.drop (o.length + 16) (o ++ List.replicate (16 * (m + 1)) 0)) = o ++ ([] ++ ((bsh b q).2 ++ List.replicate (16 * m) 0)) := by
   rw [List.take_left' rfl,List.nil_append]
   congr 1
   unfold bsh
   congr 1
   rw [List.drop_append,List.drop_eq_nil_of_le (by omega),List.nil_append,List.drop_replicate]
   congr 1
   omega
  rw [hmid]
  have hsg := rsigns_loop (N:=N) (bad:=bad) hb hl (by omega) (A:=o) (B:=List.replicate (16 * m) 0) (rng:=(bsh b q).1.rng) (val:=(bsh b q).1.val) (last:=(bsh b q).1.last) (front:=fr b (bsh b q).1.m) (T:=16) (fun _ => by omega) (fun _ => by omega) N (bsh b q).2 [] w (C + 8 * ((bsh b q).1.m : Int)) hw (by rw [a4]; rfl) a5 (by omega) (by omega) (fun _ => by omega)
  have hsg' : Rc.read9.loop10 N N (o.length : Int) ((16 : Nat) : Int) ((16 : Nat) : Int) (shq b 4 (q.sk (icdfT 5) : Int) (q.sy b (icdfT 5))).1.rng (shq b 4 (q.sk (icdfT 5) : Int) (q.sy b (icdfT 5))).1.val (shq b 4 (q.sk (icdfT 5) : Int) (q.sy b (icdfT 5))).1.last (fr b (shq b 4 (q.sk (icdfT 5) : Int) (q.sy b (icdfT 5))).1.m) bad b 0 (fr b w.k) w.win (w.wai : Int) (C + 8 * ((shq b 4 (q.sk (icdfT 5) : Int) (q.sy b (icdfT 5))).1.m : Int)) (o ++ ([] ++ ((bsh b q).2 ++ List.replicate (16 * m) 0))) = _ := hsg
  rw [hsg',obind_of]
  simp only
  have ih := read9_loop hb hl hN hn nn m (bsh b q).1 (sgn b (bsh b q).2 w).2.1 (C + (sgn b (bsh b q).2 w).2.2) (o ++ (sgn b (bsh b q).2 w).1) a1 s1 (by omega) (fun _ => by omega) (by omega) (by rw [List.length_append,s2,a4]; omega) (by omega)
  rw [List.length_append,s2,a4,show ((o.length + 16 : Nat) : Int) = (o.length : Int) + 16 by omega,List.append_assoc,show C + (sgn b (bsh b q).2 w).2.2 + 8 * ((bsh b q).1.m : Int) = C + 8 * ((bsh b q).1.m : Int) + (sgn b (bsh b q).2 w).2.2 by omega] at ih
  exact ih
end
end Go.Pl
/-
 Layer 9: pulses that may be; pulses are read by both in one way.
 Conditions: none.
-/
namespace Go.Pl
open Go.Eng Go.Proofs
def ab (v : Int) : Int := if v < 0 then -v else v
def c32 (v : Int) : Int := if v < -32 then -32 else if v > 32 then 32 else v
def cnt (l : List Int) : Int := tot (l.map fun v => ab (c32 v))
theorem c32_ab (v : Int) : 0 <= ab (c32 v) /\ ab (c32 v) <= 32 := by
 unfold ab c32
 split <;> split <;> (try split) <;> omega
theorem cnt_range : ∀ l : List Int,0 <= cnt l /\ cnt l <= 32 * l.length
 | [] => by simp [cnt,tot]
 | v :: r => by
  have h1 := c32_ab v
  have h2 := cnt_range r
  simp only [cnt,List.map_cons,tot,List.length_cons] at h2 ⊢
  omega
section
variable {N : Nat}
theorem abs9_F {v : Int} (h0 : -100 <= v) (h1 : v <= 100) : Rc.abs9.F N v = some (ab v) := by
 unfold Rc.abs9.F ab
 rw [i64 (x:=0 - v) (by omega) (by omega)]
 by_cases c : v < 0
 ·rw [if_pos c,if_pos (show 0 - v > v by omega),Int.zero_sub]
 ·rw [if_neg c]
  by_cases d : 0 - v > v
  ·omega
  ·rw [if_neg d]
theorem clamp32 (v : Int) : Rc.clamp.F N v (-32) 32 = some (c32 v) := by
 unfold Rc.clamp.F c32
 simp only [br_dec]
 rw [if_neg (by omega)]
 by_cases c1 : v < -32
 ·rw [if_pos c1,if_pos c1]
 rw [if_neg c1,if_neg c1]
 by_cases c2 : v > 32
 ·rw [if_pos c2,if_pos c2]
 ·rw [if_neg c2,if_neg c2]
theorem drop_cons {l : List Int} {k : Nat} (h : k < l.length) : l.drop k = l.getD k 0 :: l.drop (k + 1) := by
 rw [List.drop_eq_getElem_cons h,List.getD_eq_getElem?_getD,List.getElem?_eq_getElem h]
 rfl
theorem cnt_drop {l : List Int} {k : Nat} (h : k < l.length) : cnt (l.drop k) = ab (c32 (l.getD k 0)) + cnt (l.drop (k + 1)) := by
 rw [drop_cons h]
 rfl
theorem count_loop {l : List Int} (hl : l.length <= 1000000) : ∀ (nn k : Nat) (s : Int),k <= l.length -> l.length - k < nn -> 0 <= s -> (True -> s <= 32 * k) -> Rc.count9.loop3 N nn l.length l s k = some (s + cnt (l.drop k))
 | 0,k,s,_,h,_,_ => by omega
 | nn + 1,k,s,hk,h,s0,s1 => by
  have s1 := s1 trivial
  unfold Rc.count9.loop3
  simp only [br_dec,chkI_same,chkL_same]
  by_cases c : k < l.length
  ·have hr := c32_ab (l.getD k 0)
   have hb : -100 <= c32 (l.getD k 0) /\ c32 (l.getD k 0) <= 100 := by unfold c32; split <;> (try split) <;> omega
   rw [if_pos (by omega),chk_pos (by omega),Int.toNat_natCast,clamp32,obind_of,abs9_F hb.1 hb.2,obind_of,i64 (by omega) (by omega),i64 (by omega) (by omega)]
   have ih := count_loop hl nn (k + 1) (s + ab (c32 (l.getD k 0))) (by omega) (by omega) (by omega) (fun _ => by omega)
   rw [show ((k + 1 : Nat) : Int) = (k : Int) + 1 by omega] at ih
   rw [ih,cnt_drop c]
   congr 1
   omega
  ·rw [if_neg (by omega),List.drop_eq_nil_of_le (by omega)]
   simp [cnt,tot]
theorem count9_F {l : List Int} (hl : l.length <= 1000000) (hN : l.length < N) : Rc.count9.F N l = some (cnt l) := by
 unfold Rc.count9.F
 have := count_loop (N:=N) hl N 0 0 (by omega) (by omega) (by omega) (fun _ => by omega)
 rw [show ((0 : Nat) : Int) = 0 from rfl] at this
 rw [this,obind_of,List.drop_zero,Int.zero_add]
end
def okB : Nat -> List Int -> Bool
 | 0,_ => true
 | m + 1,l => decide (cnt (l.take 16) <= 16) && okB m (l.drop 16)
theorem okB_snoc : ∀ {i : Nat} {o Y : List Int},o.length = 16 * i -> Y.length = 16 -> okB i o = true -> cnt Y <= 16 -> okB (i + 1) (o ++ Y) = true
 | 0,o,Y,h,hY,_,hc => by
  have : o = [] := by simpa using h
  subst this
  simp only [okB,List.nil_append,Bool.and_true]
  have e : Y.take 16 = Y := List.take_of_length_le (by omega)
  simp only [e]
  simpa using hc
 | i + 1,o,Y,h,hY,ho,hc => by
  simp only [okB,Bool.and_eq_true] at ho
  have ih := okB_snoc (i:=i) (o:=o.drop 16) (by rw [List.length_drop]; omega) hY ho.2 hc
  rw [show okB (i + 1 + 1) (o ++ Y) = (decide (cnt ((o ++ Y).take 16) <= 16) && okB (i + 1) ((o ++ Y).drop 16)) from rfl,List.take_append_of_le_length (by omega),List.drop_append_of_le_length (by omega),ih,ho.1]
  rfl
def mayB (n : Nat) : Bool := decide (16 <= n) && (decide (n <= 480) && decide (n % 16 = 0))
def goodB (l : List Int) : Bool := mayB l.length && okB (l.length / 16) l
section
variable {N : Nat}
theorem pmay_F (n : Int) : Rc.pmay9.F N n = some (decide (16 <= n) && (decide (n <= 480) && decide (n % 16 = 0))) := by
 unfold Rc.pmay9.F
 simp only [br_dec]
 by_cases c1 : n >= 16
 ·rw [if_pos c1]
  by_cases c2 : n <= 480
  ·rw [if_pos c2,Int.tmod_eq_emod_of_nonneg (by omega)]
   simp only [show decide (16 <= n) = true by simpa using c1,show decide (n <= 480) = true by simpa using c2,Bool.true_and]
   rfl
  ·rw [if_neg c2]
   simp [c2]
 ·rw [if_neg c1]
  simp only [show decide (16 <= n) = false by simpa using c1,Bool.false_and]
theorem pmay_nat (n : Nat) : Rc.pmay9.F N (n : Int) = some (mayB n) := by
 rw [pmay_F]
 unfold mayB
 congr 1
 have e1 : (16 <= (n : Int)) ↔ 16 <= n := by omega
 have e2 : ((n : Int) <= 480) ↔ n <= 480 := by omega
 have e3 : ((n : Int) % 16 = 0) ↔ n % 16 = 0 := by omega
 simp only [e1,e2,e3]
theorem good9_loop {l e : List Int} (hl : l.length <= 480) (hN : 30000 <= N) (s : Bool) : ∀ (nn m k : Nat),k + 16 * m = l.length -> m < nn ->
  (okB m (l.drop k) = true -> Rc.good9.loop4 N nn e l k s = some (.inl s)) /\ (okB m (l.drop k) = false -> Rc.good9.loop4 N nn e l k s = some (.inr false))
 | 0,m,k,_,h => by omega
 | nn + 1,0,k,hk,h => by
  unfold Rc.good9.loop4
  simp only [br_dec]
  rw [if_neg (by omega)]
  exact ⟨fun _ => rfl,fun h => by simp [okB] at h⟩
 | nn + 1,m + 1,k,hk,h => by
  unfold Rc.good9.loop4
  simp only [br_dec,chkL_same]
  rw [if_pos (by omega),i64 (x:=(k : Int) + 16) (by omega) (by omega),chk_pos (by omega),chk_pos (by omega),show ((k : Int) + 16).toNat = k + 16 by omega,Int.toNat_natCast,show k + 16 - k = 16 by omega,count9_F (by rw [List.length_take,List.length_drop]; omega) (by rw [List.length_take,List.length_drop]; omega),obind_of]
  have ih := good9_loop (e:=e) hl hN s nn m (k + 16) (by omega) (by omega)
  rw [show ((k + 16 : Nat) : Int) = (k : Int) + 16 by omega] at ih
  have hok : okB (m + 1) (l.drop k) = (decide (cnt ((l.drop k).take 16) <= 16) && okB m (l.drop (k + 16))) := by simp only [okB,List.drop_drop]
  rw [hok]
  by_cases c : cnt ((l.drop k).take 16) <= 16
  ·rw [if_neg (show ¬ cnt ((l.drop k).take 16) > 16 by omega),decide_eq_true c]
   simpa using ih
  ·rw [if_pos (show cnt ((l.drop k).take 16) > 16 by omega),decide_eq_false c]
   exact ⟨fun h => by simp at h,fun _ => rfl⟩
theorem good9_F (l : List Int) (hN : 30000 <= N) : Rc.good9.F N l = some (goodB l) := by
 unfold Rc.good9.F goodB
 rw [pmay_nat,obind_of,br_not]
 cases hm : mayB l.length with
 | false => rfl
 | true =>
  simp only [mayB,Bool.and_eq_true,decide_eq_true_eq] at hm
  have h := good9_loop (N:=N) (l:=l) (e:=l) (by omega) hN false N (l.length / 16) 0 (by omega) (by omega)
  rw [show ((0 : Nat) : Int) = 0 from rfl,List.drop_zero] at h
  rw [if_pos rfl,Bool.true_and]
  cases ho : okB (l.length / 16) l with
  | true => rw [h.1 ho]; rfl
  | false => rw [h.2 ho]; rfl
end
theorem sgn_cnt {b : List Int} : ∀ (X : List Int) (w : W),(∀ x ∈ X,0 <= x /\ x <= 16) -> cnt (sgn b X w).1 = tot X
 | [],w,_ => rfl
 | v :: r,w,h => by
  have hv := h v (by simp)
  have ih := fun w' => sgn_cnt (b:=b) r w' (fun x hx => h x (by simp [hx]))
  simp only [sgn]
  split
  ·have : cnt ((if w.val b 1 = 1 then 0 - v else v) :: (sgn b r (w.next b 1)).1) = ab (c32 (if w.val b 1 = 1 then 0 - v else v)) + cnt (sgn b r (w.next b 1)).1 := rfl
   simp only
   rw [this,ih,tot]
   congr 1
   unfold ab c32
   split <;> split <;> (try split) <;> (try split) <;> omega
  ·have : cnt (v :: (sgn b r w).1) = ab (c32 v) + cnt (sgn b r w).1 := rfl
   simp only
   rw [this,ih,tot]
   congr 1
   unfold ab c32
   split <;> split <;> (try split) <;> (try split) <;> omega
theorem blks_good {b : List Int} (hb : Bytes b) : ∀ (n : Nat) (q : Q) (w : W) (C : Int) (o : List Int) (i : Nat),q.Ok -> w.Ok -> o.length = 16 * i -> okB i o = true -> okB (i + n) (blks b n q w C o).2.2.2 = true
 | 0,q,w,C,o,i,h,hw,ho,hk => hk
 | n + 1,q,w,C,o,i,h,hw,ho,hk => by
  obtain ⟨a1,a2,a3,a4,a5,a6⟩ := bsh_facts hb h
  obtain ⟨s1,s2,s3,s4⟩ := sgn_facts hb (bsh b q).2 w hw
  have := blks_good hb n (bsh b q).1 (sgn b (bsh b q).2 w).2.1 (C + (sgn b (bsh b q).2 w).2.2) (o ++ (sgn b (bsh b q).2 w).1) (i + 1) a1 s1 (by rw [List.length_append,s2,a4]; omega)
   (okB_snoc ho (by rw [s2,a4]) hk (by rw [sgn_cnt _ _ a5]; exact a6))
  rw [show i + 1 + n = i + (n + 1) by omega] at this
  exact this
end Go.Pl
/-
 Layer 14: a frame is read, in the book's words and the reference's.
 Conditions: none.
-/
namespace Go.Pl
open Go.Eng Go.Proofs
theorem len0 : (icdfT 0).length = 3 := rfl
theorem len3 : (icdfT 3).length = 16 := rfl
theorem len4 : (icdfT 4).length = 9 := rfl
theorem g0 : GoodT (icdfT 0) := icdf_good (by omega) (by omega)
theorem g3 : GoodT (icdfT 3) := icdf_good (by omega) (by omega)
theorem g4 : GoodT (icdfT 4) := icdf_good (by omega) (by omega)
def ord14 (rate : Int) : Nat := if rate = 8000 then 10 else if rate = 16000 then 16 else 0
theorem ord14_le (rate : Int) : ord14 rate <= 16 := by unfold ord14; split <;> (try split) <;> omega
theorem torder_F {N : Nat} (rate : Int) : Rc.torder.F N rate = some (ord14 rate : Int) := by
 unfold Rc.torder.F ord14
 simp only [br_beq]
 split
 ·rfl
 ·split <;> rfl
theorem rorder_F {N : Nat} (rate : Int) : Rc.rorder.F N rate = some (ord14 rate : Int) := by
 unfold Rc.rorder.F ord14
 simp only [br_beq]
 split
 ·rfl
 ·split <;> rfl
theorem spmay_F {N : Nat} (rate ms : Int) : Rc.spmay.F N rate ms = some (decide ((rate = 8000 \/ rate = 16000) /\ (ms = 10 \/ ms = 20))) := by
 unfold Rc.spmay.F
 rw [torder_F,obind_of]
 unfold ord14
 simp only [br_dec,br_beq]
 by_cases h1 : rate = 8000
 ·by_cases h2 : ms = 10
  ·simp [h1,h2]
  ·by_cases h3 : ms = 20
   ·simp [h1,h3]
   ·simp [h1,h2,h3]
 ·by_cases h4 : rate = 16000
  ·by_cases h2 : ms = 10
   ·simp [h4,h2]
   ·by_cases h3 : ms = 20
    ·simp [h4,h3]
    ·simp [h4,h2,h3]
  ·simp [h1,h4]
structure RS where
 q : Q
 w : W
 C : Int
 bad : Bool
abbrev RS.ct (s : RS) : Int := s.C + 8 * (s.q.m : Int)
structure RS.Ok (s : RS) (k : Nat) : Prop where
 q : s.q.Ok
 w : s.w.Ok
 c0 : 0 <= s.C
 c1 : s.C <= 32 * (k : Int)
 m : s.q.m <= 4 * k
theorem RS.Ok.mono {s : RS} {k k' : Nat} (h : s.Ok k) (hk : k <= k') : s.Ok k' := ⟨h.q,h.w,h.c0,by have := h.c1; omega,by have := h.m; omega⟩
theorem ct_of {q q' : Q} (h : q.m <= q'.m) (C : Int) : ct (C + 8 * (q.m : Int)) q q' = C + 8 * (q'.m : Int) := by unfold ct; omega
theorem RS.ct_rg {s : RS} {k : Nat} (h : s.Ok k) (hk : k <= 2000) : 0 <= s.ct /\ s.ct < 1099511000000 := by
 have := h.c0; have := h.c1; have := h.m
 unfold RS.ct; omega
def RS.bit (b : List Int) (s : RS) : RS := ⟨s.q,s.w.next b 1,s.C + 1,s.bad⟩
def RS.sy (b : List Int) (s : RS) (t : List Int) : RS := ⟨s.q.sy b t,s.w,s.C,s.bad⟩
def RS.uv (b : List Int) (s : RS) (ft : Int) : Int := if ft <= 256 then s.q.ch ft else if Pl.uv b s.q s.w ft >= ft then ft - 1 else Pl.uv b s.q s.w ft
def RS.un (b : List Int) (s : RS) (ft : Int) : RS := if ft <= 256 then ⟨s.q.un b ft,s.w,s.C,s.bad⟩ else ⟨s.q.un b ft,s.w.next b (ub ft),s.C + (ub ft : Int),s.bad || decide (Pl.uv b s.q s.w ft >= ft)⟩
section
variable {N : Nat} {b : List Int}
theorem RS.bit_ok (hb : Bytes b) {s : RS} {k : Nat} (h : s.Ok k) : (s.bit b).Ok (k + 1) := ⟨h.q,W.next_ok hb h.w (by omega),by have := h.c0; simp only [RS.bit]; omega,by have := h.c1; simp only [RS.bit]; omega,by have := h.m; simp only [RS.bit]; omega⟩
theorem RS.sy_ok (hb : Bytes b) {s : RS} {k : Nat} (h : s.Ok k) {t : List Int} (g : GoodT t) : (s.sy b t).Ok (k + 1) := by
 have hm := Q.sy_m b s.q t
 exact ⟨Q.sy_ok hb h.q g,h.w,h.c0,by have := h.c1; simp only [RS.sy]; omega,by have := h.m; simp only [RS.sy]; omega⟩
theorem RS.un_ok (hb : Bytes b) {s : RS} {k : Nat} (h : s.Ok k) {ft : Int} (f0 : 1 < ft) (f1 : ft <= 1000) : (s.un b ft).Ok (k + 1) /\ 0 <= s.uv b ft /\ s.uv b ft < ft := by
 have hm := Q.un_m b s.q ft
 have hq := Q.un_ok hb h.q (ft:=ft) (by omega) (by omega)
 have := h.c0; have := h.c1; have := h.m
 unfold RS.un RS.uv
 by_cases c : ft <= 256
 ·obtain ⟨e0,e1⟩ := Q.ch_range h.q (ft:=ft) (by omega) (by omega)
  simp only [if_pos c]
  exact ⟨⟨hq,h.w,by simp only; omega,by simp only; omega,by simp only; omega⟩,e0,e1⟩
 ·obtain ⟨b0,b1,_⟩ := ub_range (ft:=ft) (by omega) (by omega)
  obtain ⟨u0,u1,_⟩ := uv_range (b:=b) h.q s.w (ft:=ft) (by omega) (by omega)
  simp only [if_neg c]
  refine ⟨⟨hq,W.next_ok hb h.w (by omega),by simp only; omega,by simp only; omega,by simp only; omega⟩,?_,?_⟩
  ·split <;> omega
  ·split <;> omega
theorem RS.un_F (hb : Bytes b) (hl : b.length < 140737488351233) {s : RS} {k : Nat} (h : s.Ok k) (hk : k <= 1000) {ft : Int} (f0 : 1 < ft) (f1 : ft <= 1000) (hN : 300 <= N) :
  Rc.uint.F N ft s.q.rng s.q.val s.q.last (fr b s.q.m) (fr b s.w.k) s.w.win (s.w.wai : Int) s.ct s.bad b = some (s.uv b ft,(s.un b ft).q.rng,(s.un b ft).q.val,(s.un b ft).q.last,fr b (s.un b ft).q.m,fr b (s.un b ft).w.k,(s.un b ft).w.win,((s.un b ft).w.wai : Int),(s.un b ft).ct,(s.un b ft).bad) /\
  ∀ eq,∃ eq',Rc.ruint.F N ft s.q.rng s.q.val s.q.last (fr b s.q.m) (fr b s.w.k) s.w.win (s.w.wai : Int) s.ct eq s.bad b = some (s.uv b ft,(s.un b ft).q.rng,(s.un b ft).q.val,(s.un b ft).q.last,fr b (s.un b ft).q.m,fr b (s.un b ft).w.k,(s.un b ft).w.win,((s.un b ft).w.wai : Int),(s.un b ft).ct,eq',(s.un b ft).bad) := by
 obtain ⟨t0,t1⟩ := RS.ct_rg h (by omega)
 have hm := (Q.un_m b s.q ft).1
 by_cases c : ft <= 256
 ·simp only [RS.un,RS.uv,if_pos c]
  rw [uint_small hb hl h.q f0 c t0 (by omega) hN,ct_of hm]
  refine ⟨rfl,fun eq => ?_⟩
  obtain ⟨eq',e⟩ := ruint_small (N:=N) (b:=b) (back:=fr b s.w.k) (wait:=s.w.win) (waiting:=(s.w.wai : Int)) (eq:=eq) (bad:=s.bad) hb hl h.q f0 c t0 (by omega) hN
  refine ⟨eq',?_⟩
  rw [e,ct_of hm]
 ·simp only [RS.un,RS.uv,if_neg c]
  rw [uint_great hb hl h.q h.w (by omega) (by omega) t0 (by omega) hN,ct_of hm]
  have e : ∀ x y z : Int,x + y + z = x + z + y := fun x y z => by omega
  refine ⟨by rw [e],fun eq => ?_⟩
  obtain ⟨eq',e'⟩ := ruint_great (N:=N) (b:=b) (eq:=eq) (bad:=s.bad) hb hl h.q h.w (ft:=ft) (by omega) (by omega) t0 (by omega) hN
  refine ⟨eq',?_⟩
  rw [e',ct_of hm,e]
def two14 (b : List Int) : Nat -> RS -> List Int -> RS × List Int
 | 0,s,o => (s,o)
 | n + 1,s,o => two14 b n (s.sy b (icdfT 4)) (o ++ [(s.q.sk (icdfT 4) : Int) - 4])
theorem two14_facts (hb : Bytes b) : ∀ (n k : Nat) (s : RS) (o : List Int),s.Ok k -> (∀ x ∈ o,-4 <= x /\ x <= 4) -> (two14 b n s o).1.Ok (k + n) /\ (two14 b n s o).1.w = s.w /\ (two14 b n s o).1.bad = s.bad /\ (two14 b n s o).2.length = o.length + n /\ (∀ x ∈ (two14 b n s o).2,-4 <= x /\ x <= 4)
 | 0,k,s,o,h,ho => ⟨h,rfl,rfl,rfl,ho⟩
 | n + 1,k,s,o,h,ho => by
  have hs := (Q.sk_spec h.q g4).1
  rw [len4] at hs
  obtain ⟨a1,a2,a3,a4,a5⟩ := two14_facts hb n (k + 1) (s.sy b (icdfT 4)) (o ++ [(s.q.sk (icdfT 4) : Int) - 4]) (RS.sy_ok hb h g4) (fun x hx => by
   rcases List.mem_append.1 hx with hx | hx
   ·exact ho x hx
   ·simp only [List.mem_singleton] at hx; omega)
  simp only [two14]
  refine ⟨by rw [show k + (n + 1) = k + 1 + n by omega]; exact a1,a2,a3,by rw [a4]; simp; omega,a5⟩
theorem spread_two (hb : Bytes b) (hl : True -> b.length < 140737488351233) (hN : 30000 <= N) {ord : Nat} {kind one btw : Int} {fresh : Bool} : ∀ (nn n i k : Nat) (s : RS) (o : List Int),s.Ok k -> k + n <= 1000 -> i + n = ord -> ord <= 100 -> o.length = i -> n < nn ->
  Rc.spreadf.loop6 N nn (ord : Int) (fr b s.w.k) s.w.win (s.w.wai : Int) kind one btw s.bad fresh b (i : Int) s.q.rng s.q.val s.q.last (fr b s.q.m) s.ct o [] [] =
   some ((two14 b n s o).1.q.rng,(two14 b n s o).1.q.val,(two14 b n s o).1.q.last,fr b (two14 b n s o).1.q.m,(two14 b n s o).1.ct,(two14 b n s o).2,[],[])
 | 0,n,i,k,s,o,_,_,_,_,_,h => by omega
 | nn + 1,0,i,k,s,o,h,hk,hi,ho,hoi,_ => by
  unfold Rc.spreadf.loop6
  simp only [br_dec,chkI_same,chkB_same,chkL_same]
  rw [if_neg (by omega)]
  rfl
 | nn + 1,n + 1,i,k,s,o,h,hk,hi,ho,hoi,hn => by
  have hs := (Q.sk_spec h.q g4).1
  rw [len4] at hs
  obtain ⟨t0,t1⟩ := RS.ct_rg h (by omega)
  unfold Rc.spreadf.loop6
  simp only [br_dec,chkI_same,chkB_same,chkL_same]
  rw [if_pos (by omega),ticdf_F,obind_of,(symbol_F hb (hl trivial) h.q (icdfT 4) t0 (by omega) (by omega)).1 g4,obind_of]
  simp only
  rw [chk_pos (by simp; omega),i64 (x:=(s.q.sk (icdfT 4) : Int) - 4) (by omega) (by omega),i64 (x:=(i : Int) + 1) (by omega) (by omega),ct_of (Q.sy_m b s.q (icdfT 4)).1]
  exact spread_two hb hl hN nn n (i + 1) (k + 1) (s.sy b (icdfT 4)) (o ++ [(s.q.sk (icdfT 4) : Int) - 4]) (RS.sy_ok hb h g4) (by omega) (by omega) ho (by simp; omega) (by omega)
def gn14 (b : List Int) (f : Bool) (s : RS) (was : Int) : Int × RS :=
 if f = true then (8 * (s.q.sk (icdfT 1) : Int) + (s.q.sy b (icdfT 1)).ch 8,(s.sy b (icdfT 1)).un b 8) else (c63 (c63 was + (s.q.sk (icdfT 2) : Int) - 8),s.sy b (icdfT 2))
def gns14 (b : List Int) : Nat -> Bool -> RS -> Int -> List Int -> RS × List Int
 | 0,_,s,_,o => (s,o)
 | n + 1,f,s,was,o => gns14 b n false (gn14 b f s was).2 (gn14 b f s was).1 (o ++ [(gn14 b f s was).1])
theorem gn14_facts (hb : Bytes b) {f : Bool} {s : RS} {k : Nat} (h : s.Ok k) (was : Int) : (gn14 b f s was).2.Ok (k + 2) /\ 0 <= (gn14 b f s was).1 /\ (gn14 b f s was).1 <= 63 /\ (gn14 b f s was).2.w = s.w /\ (gn14 b f s was).2.bad = s.bad := by
 unfold gn14
 cases f with
 | true =>
  have hs := (Q.sk_spec h.q g1).1
  rw [len1] at hs
  have h1 := RS.sy_ok hb h g1
  obtain ⟨h2,_,_⟩ := RS.un_ok hb h1 (ft:=8) (by omega) (by omega)
  obtain ⟨e0,e1⟩ := Q.ch_range h1.q (ft:=8) (by omega) (by omega)
  simp only [RS.sy] at e0 e1
  exact ⟨h2,by simp; omega,by simp; omega,rfl,rfl⟩
 | false =>
  have := c63_range (c63 was + (s.q.sk (icdfT 2) : Int) - 8)
  exact ⟨(RS.sy_ok hb h g2).mono (by omega),by simpa using this.1,by simpa using this.2,rfl,rfl⟩
theorem gns14_facts (hb : Bytes b) : ∀ (n k : Nat) (f : Bool) (s : RS) (was : Int) (o : List Int),s.Ok k -> (∀ x ∈ o,0 <= x /\ x <= 63) -> (gns14 b n f s was o).1.Ok (k + 2 * n) /\ (gns14 b n f s was o).1.w = s.w /\ (gns14 b n f s was o).1.bad = s.bad /\ (gns14 b n f s was o).2.length = o.length + n /\ (∀ x ∈ (gns14 b n f s was o).2,0 <= x /\ x <= 63)
 | 0,k,f,s,was,o,h,ho => ⟨h,rfl,rfl,rfl,ho⟩
 | n + 1,k,f,s,was,o,h,ho => by
  obtain ⟨c1,c2,c3,c4,c5⟩ := gn14_facts (f:=f) hb h was
  obtain ⟨a1,a2,a3,a4,a5⟩ := gns14_facts hb n (k + 2) false (gn14 b f s was).2 (gn14 b f s was).1 (o ++ [(gn14 b f s was).1]) c1 (fun x hx => by
   rcases List.mem_append.1 hx with hx | hx
   ·exact ho x hx
   ·simp only [List.mem_singleton] at hx; omega)
  simp only [gns14]
  exact ⟨by rw [show k + 2 * (n + 1) = k + 2 + 2 * n by omega]; exact a1,a2.trans c4,a3.trans c5,by rw [a4]; simp; omega,a5⟩
theorem spread_gains (hb : Bytes b) (hl : True -> b.length < 140737488351233) (hN : 30000 <= N) {cnt : Nat} {kind one btw : Int} {fresh : Bool} {two : List Int} : ∀ (nn n i k : Nat) (s : RS) (was : Int) (o : List Int),s.Ok k -> k + 2 * n <= 1000 -> i + n = cnt -> cnt <= 100 -> o.length = i -> n < nn ->
  Rc.spreadf.loop11 N nn (cnt : Int) kind one btw fresh b was (i : Int) s.q.rng s.q.val s.q.last (fr b s.q.m) (fr b s.w.k) s.w.win (s.w.wai : Int) s.ct s.bad two o [] =
   some ((gns14 b n (decide (i = 0) && fresh) s was o).1.q.rng,(gns14 b n (decide (i = 0) && fresh) s was o).1.q.val,(gns14 b n (decide (i = 0) && fresh) s was o).1.q.last,fr b (gns14 b n (decide (i = 0) && fresh) s was o).1.q.m,fr b s.w.k,s.w.win,(s.w.wai : Int),(gns14 b n (decide (i = 0) && fresh) s was o).1.ct,s.bad,two,(gns14 b n (decide (i = 0) && fresh) s was o).2,[])
 | 0,n,i,k,s,was,o,_,_,_,_,_,h => by omega
 | nn + 1,0,i,k,s,was,o,h,hk,hi,ho,hoi,_ => by
  unfold Rc.spreadf.loop11
  simp only [br_dec,chkI_same,chkB_same,chkL_same]
  rw [if_neg (by omega)]
  rfl
 | nn + 1,n + 1,i,k,s,was,o,h,hk,hi,ho,hoi,hn => by
  obtain ⟨t0,t1⟩ := RS.ct_rg h (by omega)
  obtain ⟨c1,c2,c3,c4,c5⟩ := gn14_facts (f:=decide (i = 0) && fresh) hb h was
  have ih := spread_gains (kind:=kind) (one:=one) (btw:=btw) (fresh:=fresh) (two:=two) (cnt:=cnt) hb hl hN nn n (i + 1) (k + 2) (gn14 b (decide (i = 0) && fresh) s was).2 (gn14 b (decide (i = 0) && fresh) s was).1 (o ++ [(gn14 b (decide (i = 0) && fresh) s was).1]) c1 (by omega) (by omega) ho (by simp; omega) (by omega)
  rw [show (decide (i + 1 = 0) && fresh) = false by simp,c4,c5] at ih
  simp only [gns14]
  have hnx : ∀ was,Rc.greadnext.F N was s.q.rng s.q.val s.q.last (fr b s.q.m) (fr b s.w.k) s.w.win (s.w.wai : Int) s.ct s.bad b = some ((gn14 b false s was).1,(gn14 b false s was).2.q.rng,(gn14 b false s was).2.q.val,(gn14 b false s was).2.q.last,fr b (gn14 b false s was).2.q.m,(gn14 b false s was).2.ct) := fun was => by
   rw [greadnext_F hb (hl trivial) h.q was t0 (by omega) (by omega),ct_of (Q.sy_m b s.q (icdfT 2)).1]
   simp [gn14,RS.sy]
  unfold Rc.spreadf.loop11
  simp only [br_dec,br_beq,chkI_same,chkB_same,chkL_same]
  rw [if_pos (by omega)]
  by_cases h0 : i = 0
  ·subst h0
   rw [if_pos (show ((0 : Nat) : Int) = 0 from rfl)]
   cases fresh with
   | true =>
    rw [br_true]
    have hf : Rc.greadfirst.F N s.q.rng s.q.val s.q.last (fr b s.q.m) (fr b s.w.k) s.w.win (s.w.wai : Int) s.ct s.bad b = some ((gn14 b true s was).1,(gn14 b true s was).2.q.rng,(gn14 b true s was).2.q.val,(gn14 b true s was).2.q.last,fr b (gn14 b true s was).2.q.m,fr b s.w.k,s.w.win,(s.w.wai : Int),(gn14 b true s was).2.ct,s.bad) := by
     rw [greadfirst_F hb (hl trivial) h.q t0 (by omega) (by omega),ct_of (Q.sy_m b s.q (icdfT 1)).1,ct_of (Q.un_m b (s.q.sy b (icdfT 1)) 8).1]
     simp [gn14,RS.sy,RS.un]
    rw [hf,obind_of]
    simp only [decide_true,Bool.true_and] at ih ⊢
    rw [chk_pos (by simp; omega),i64 (x:=((0 : Nat) : Int) + 1) (by omega) (by omega)]
    exact ih
   | false =>
    rw [br_false,hnx,obind_of]
    simp only [Bool.and_false] at ih ⊢
    rw [chk_pos (by simp; omega),i64 (x:=((0 : Nat) : Int) + 1) (by omega) (by omega)]
    exact ih
  ·rw [if_neg (by omega),hnx,obind_of]
   simp only [h0,decide_false,Bool.false_and] at ih ⊢
   rw [chk_pos (by simp; omega),i64 (x:=(i : Int) + 1) (by omega) (by omega)]
   exact ih
end
end Go.Pl
/-
 Layer 14: what repeats, pulses; a frame is read as a whole.
 Conditions: none.
-/
namespace Go.Pl
open Go.Eng Go.Proofs
theorem obind_step {X Y : Type} {x : Option X} {v : X} {k : X -> Option Y} {r : Option Y} (h : x = some v) (h2 : k v = r) : obind x k = r := by rw [h]; exact h2
section
variable {N : Nat} {b : List Int}
def ltp14 (b : List Int) (lo ft : Int) : Nat -> RS -> List (List Int) -> RS × List (List Int)
 | 0,s,o => (s,o)
 | n + 1,s,o => ltp14 b lo ft n ((s.un b ft).sy b (icdfT 6)) (o ++ [[lo + s.uv b ft,((s.un b ft).q.sk (icdfT 6) : Int)]])
def GoodLtp (lo hi : Int) (r : List Int) : Prop := ∃ a t,r = [a,t] /\ lo <= a /\ a <= hi /\ 0 <= t /\ t <= 7
theorem ltp14_facts (hb : Bytes b) {lo ft : Int} (f0 : 1 < ft) (f1 : ft <= 1000) : ∀ (n k : Nat) (s : RS) (o : List (List Int)),s.Ok k -> (∀ r ∈ o,GoodLtp lo (lo + ft - 1) r) -> (ltp14 b lo ft n s o).1.Ok (k + 2 * n) /\ (ltp14 b lo ft n s o).2.length = o.length + n /\ (∀ r ∈ (ltp14 b lo ft n s o).2,GoodLtp lo (lo + ft - 1) r)
 | 0,k,s,o,h,ho => ⟨h,rfl,ho⟩
 | n + 1,k,s,o,h,ho => by
  obtain ⟨h1,u0,u1⟩ := RS.un_ok hb h f0 f1
  have hs := (Q.sk_spec h1.q g6).1
  rw [len6] at hs
  obtain ⟨a1,a2,a3⟩ := ltp14_facts hb f0 f1 n (k + 2) _ (o ++ [[lo + s.uv b ft,((s.un b ft).q.sk (icdfT 6) : Int)]]) (RS.sy_ok hb h1 g6) (fun r hr => by
   rcases List.mem_append.1 hr with hr | hr
   ·exact ho r hr
   ·simp only [List.mem_singleton] at hr; exact ⟨_,_,hr,by omega,by omega,by omega,by omega⟩)
  simp only [ltp14]
  exact ⟨by rw [show k + 2 * (n + 1) = k + 2 + 2 * n by omega]; exact a1,by rw [a2]; simp; omega,a3⟩
def lw14 (rate : Int) : Int := hi8 rate - lo8 rate + 1
theorem lw14_of {rate : Int} (h : rate = 8000 \/ rate = 16000) : 1 < lw14 rate /\ lw14 rate <= 1000 /\ lo8 rate ≠ 0 /\ 0 <= lo8 rate /\ lo8 rate <= 32 /\ hi8 rate <= 288 /\ lo8 rate <= hi8 rate := by
 rcases h with rfl | rfl <;> decide
theorem greadltp_F (hb : Bytes b) (hl : b.length < 140737488351233) {s : RS} {k : Nat} (h : s.Ok k) (hk : k <= 900) {rate : Int} (hr : rate = 8000 \/ rate = 16000) (hN : 300 <= N) :
  Rc.greadltp.F N rate s.q.rng s.q.val s.q.last (fr b s.q.m) (fr b s.w.k) s.w.win (s.w.wai : Int) s.ct s.bad b =
   some (lo8 rate + s.uv b (lw14 rate),((s.un b (lw14 rate)).q.sk (icdfT 6) : Int),((s.un b (lw14 rate)).sy b (icdfT 6)).q.rng,((s.un b (lw14 rate)).sy b (icdfT 6)).q.val,((s.un b (lw14 rate)).sy b (icdfT 6)).q.last,fr b ((s.un b (lw14 rate)).sy b (icdfT 6)).q.m,fr b ((s.un b (lw14 rate)).sy b (icdfT 6)).w.k,((s.un b (lw14 rate)).sy b (icdfT 6)).w.win,(((s.un b (lw14 rate)).sy b (icdfT 6)).w.wai : Int),((s.un b (lw14 rate)).sy b (icdfT 6)).ct,((s.un b (lw14 rate)).sy b (icdfT 6)).bad) := by
 obtain ⟨f0,f1,z0,l0,l1,l2,l3⟩ := lw14_of hr
 obtain ⟨h1,u0,u1⟩ := RS.un_ok hb h f0 f1
 have hs := (Q.sk_spec h1.q g6).1
 rw [len6] at hs
 obtain ⟨t0,t1⟩ := RS.ct_rg h1 (by omega)
 unfold Rc.greadltp.F
 simp only [chkL_same,pair0,pair1,br_beq]
 rw [glags_F,obind_of]
 simp only
 have e : hi8 rate - lo8 rate + 1 = lw14 rate := rfl
 rw [if_neg z0,i64 (x:=hi8 rate - lo8 rate) (by omega) (by omega),i64 (x:=hi8 rate - lo8 rate + 1) (by omega) (by omega),e,(RS.un_F hb hl h (by omega) f0 f1 hN).1,obind_of]
 simp only
 rw [gsymbol_F hb hl h1.q g6 t0 (by omega) hN,obind_of]
 simp only
 have e3 : lo8 rate + s.uv b (lw14 rate) < 2000 := by omega
 rw [i64 (x:=lo8 rate + s.uv b (lw14 rate)) (by omega) (by omega),ct_of (Q.sy_m b _ (icdfT 6)).1]
 rfl
theorem spread_ltps (hb : Bytes b) (hl : True -> b.length < 140737488351233) (hN : 30000 <= N) {rate : Int} (hr : rate = 8000 \/ rate = 16000) {cnt : Nat} {kind one btw : Int} {fresh : Bool} {two gains : List Int} : ∀ (nn n i k : Nat) (s : RS) (o : List (List Int)),s.Ok k -> k + 2 * n <= 800 -> i + n = cnt -> cnt <= 100 -> o.length = i -> n < nn ->
  Rc.spreadf.loop20 N nn rate (cnt : Int) kind one btw fresh b (i : Int) s.q.rng s.q.val s.q.last (fr b s.q.m) (fr b s.w.k) s.w.win (s.w.wai : Int) s.ct s.bad two gains o =
   some ((ltp14 b (lo8 rate) (lw14 rate) n s o).1.q.rng,(ltp14 b (lo8 rate) (lw14 rate) n s o).1.q.val,(ltp14 b (lo8 rate) (lw14 rate) n s o).1.q.last,fr b (ltp14 b (lo8 rate) (lw14 rate) n s o).1.q.m,fr b (ltp14 b (lo8 rate) (lw14 rate) n s o).1.w.k,(ltp14 b (lo8 rate) (lw14 rate) n s o).1.w.win,((ltp14 b (lo8 rate) (lw14 rate) n s o).1.w.wai : Int),(ltp14 b (lo8 rate) (lw14 rate) n s o).1.ct,(ltp14 b (lo8 rate) (lw14 rate) n s o).1.bad,two,gains,(ltp14 b (lo8 rate) (lw14 rate) n s o).2)
 | 0,n,i,k,s,o,_,_,_,_,_,h => by omega
 | nn + 1,0,i,k,s,o,h,hk,hi,ho,hoi,_ => by
  unfold Rc.spreadf.loop20
  simp only [br_dec,chkI_same,chkB_same,chkL_same]
  rw [if_neg (by omega)]
  rfl
 | nn + 1,n + 1,i,k,s,o,h,hk,hi,ho,hoi,hn => by
  obtain ⟨f0,f1,_⟩ := lw14_of hr
  obtain ⟨h1,u0,u1⟩ := RS.un_ok hb h f0 f1
  unfold Rc.spreadf.loop20
  simp only [br_dec,chkI_same,chkB_same,chkL_same]
  rw [if_pos (by omega),greadltp_F hb (hl trivial) h (by omega) hr (by omega),obind_of]
  simp only
  rw [chk_pos (by omega),i64 (x:=(i : Int) + 1) (by omega) (by omega)]
  simp only [ltp14]
  exact spread_ltps hb hl hN hr nn n (i + 1) (k + 2) _ _ (RS.sy_ok hb h1 g6) (by omega) (by omega) ho (by simp; omega) (by omega)
def RS.pu (b : List Int) (m : Nat) (s : RS) : RS := ⟨(blks b m s.q s.w s.C []).1,(blks b m s.q s.w s.C []).2.1,(blks b m s.q s.w s.C []).2.2.1,s.bad⟩
def RS.pl (b : List Int) (m : Nat) (s : RS) : List Int := (blks b m s.q s.w s.C []).2.2.2
theorem RS.pu_facts (hb : Bytes b) {s : RS} {k : Nat} (h : s.Ok k) {m : Nat} (m0 : 1 <= m) (m1 : m <= 30) : (s.pu b m).Ok (k + 17 * m) /\ (s.pl b m).length = 16 * m /\ goodB (s.pl b m) = true := by
 obtain ⟨a1,a2,a3,a4,a5,a6,a7⟩ := blks_facts hb m s.q s.w s.C [] h.q h.w
 have hg := blks_good hb m s.q s.w s.C [] 0 h.q h.w rfl rfl
 have := h.c0; have := h.c1; have := h.m
 simp only [List.length_nil,Nat.zero_add] at a7 hg
 refine ⟨⟨a1,a2,by simp only [RS.pu]; omega,by simp only [RS.pu]; omega,by simp only [RS.pu]; omega⟩,a7,?_⟩
 unfold goodB mayB RS.pl
 rw [a7,show 16 * m / 16 = m by omega,hg]
 simp
 omega
theorem read9_S (hb : Bytes b) (hl : b.length < 140737488351233) {s : RS} {k : Nat} (h : s.Ok k) (hk : k <= 500) {m : Nat} (m0 : 1 <= m) (m1 : m <= 30) (hN : 30000 <= N) :
  Rc.read9.F N (16 * (m : Int)) s.q.rng s.q.val s.q.last (fr b s.q.m) (fr b s.w.k) s.w.win (s.w.wai : Int) s.ct s.bad b =
   some (0,(s.pu b m).q.rng,(s.pu b m).q.val,(s.pu b m).q.last,fr b (s.pu b m).q.m,fr b (s.pu b m).w.k,(s.pu b m).w.win,((s.pu b m).w.wai : Int),(s.pu b m).ct,(s.pu b m).bad,s.pl b m) := by
 have := h.c0; have := h.c1; have := h.m
 have h1 := read9_loop (N:=N) (bad:=s.bad) hb (fun _ => hl) hN (n:=16 * m) (by omega) N m s.q s.w s.C [] h.q h.w (by omega) (fun _ => by omega) (by omega) (by simp) (by omega)
 rw [List.length_nil,show ((0 : Nat) : Int) = 0 from rfl,List.nil_append,show ((16 * m : Nat) : Int) = 16 * (m : Int) by omega] at h1
 unfold Rc.read9.F
 simp only [chkL_same]
 have hmay : Rc.pmay9.F N (16 * (m : Int)) = some true := by
  rw [pmay_F]
  simp only [show decide (16 <= 16 * (m : Int)) = true by simp; omega,show decide (16 * (m : Int) <= 480) = true by simp; omega,show decide (16 * (m : Int) % 16 = 0) = true by simp,Bool.and_self]
 rw [hmay,obind_of,br_not,if_pos rfl,chk_pos (by omega),show (16 * (m : Int)).toNat = 16 * m by omega,h1,obind_of]
 rfl
def cnt14 (ms : Int) : Nat := (ms / 5).toNat
def blk14 (rate ms : Int) : Nat := (rate * ms / 16000).toNat
structure FR where
 fresh : Bool
 kind : Int
 one : Int
 two : List Int
 btw : Int
 gains : List Int
 ltps : List (List Int)
 pulses : List Int
 s : RS
def fr14 (b : List Int) (rate ms was : Int) (s0 : RS) : FR :=
 let fresh := s0.w.val b 1 == 1
 let s1 := s0.bit b
 let kind : Int := s1.q.sk (icdfT 0)
 let s2 := s1.sy b (icdfT 0)
 let s3 := s2.sy b (icdfT 3)
 let T := two14 b (ord14 rate) s3 []
 let s5 := T.1.un b 5
 let G := gns14 b (cnt14 ms) fresh s5 was []
 let L := if kind = 2 then ltp14 b (lo8 rate) (lw14 rate) (cnt14 ms) G.1 [] else (G.1,[])
 { fresh := fresh,kind := kind,one := s2.q.sk (icdfT 3),two := T.2,btw := T.1.uv b 5,gains := G.2,ltps := L.2,pulses := if kind = 0 then [] else L.1.pl b (blk14 rate ms),s := if kind = 0 then L.1 else L.1.pu b (blk14 rate ms) }
def May14 (rate ms : Int) : Prop := (rate = 8000 \/ rate = 16000) /\ (ms = 10 \/ ms = 20)
instance (rate ms : Int) : Decidable (May14 rate ms) := by unfold May14; infer_instance
theorem may_facts {rate ms : Int} (h : May14 rate ms) : 1 <= ord14 rate /\ ms.tdiv 5 = (cnt14 ms : Int) /\ 2 <= cnt14 ms /\ cnt14 ms <= 4 /\ (rate * ms).tdiv 1000 = 16 * (blk14 rate ms : Int) /\ 1 <= blk14 rate ms /\ blk14 rate ms <= 30 /\ IntKind.i64.wrap (rate * ms) = rate * ms := by
 obtain ⟨rfl | rfl,rfl | rfl⟩ := h <;> decide
theorem fr14_facts (hb : Bytes b) {rate ms : Int} (hm : May14 rate ms) (was : Int) {s : RS} {k : Nat} (h : s.Ok k) (hk : k <= 100) :
  (fr14 b rate ms was s).s.Ok (k + 600) /\ 0 <= (fr14 b rate ms was s).kind /\ (fr14 b rate ms was s).kind <= 2 /\ 0 <= (fr14 b rate ms was s).one /\ (fr14 b rate ms was s).one <= 15 /\
  (fr14 b rate ms was s).two.length = ord14 rate /\ (∀ x ∈ (fr14 b rate ms was s).two,-4 <= x /\ x <= 4) /\ 0 <= (fr14 b rate ms was s).btw /\ (fr14 b rate ms was s).btw <= 4 /\
  (fr14 b rate ms was s).gains.length = cnt14 ms /\ (∀ x ∈ (fr14 b rate ms was s).gains,0 <= x /\ x <= 63) /\
  ((fr14 b rate ms was s).kind ≠ 2 -> (fr14 b rate ms was s).ltps = []) /\ ((fr14 b rate ms was s).kind = 2 -> (fr14 b rate ms was s).ltps.length = cnt14 ms) /\ (∀ r ∈ (fr14 b rate ms was s).ltps,GoodLtp (lo8 rate) (hi8 rate) r) /\
  ((fr14 b rate ms was s).kind = 0 -> (fr14 b rate ms was s).pulses = []) /\ ((fr14 b rate ms was s).kind ≠ 0 -> (fr14 b rate ms was s).pulses.length = 16 * blk14 rate ms /\ goodB (fr14 b rate ms was s).pulses = true) := by
 obtain ⟨m1,m2,m3,m4,m5,m6,m7,m8⟩ := may_facts hm
 obtain ⟨f0,f1,z0,l0,l1,l2,l3⟩ := lw14_of hm.1
 have ho := ord14_le rate
 have h1 := RS.bit_ok hb h
 have k0 := (Q.sk_spec h1.q g0).1
 rw [len0] at k0
 have h2 := RS.sy_ok hb h1 g0
 have k3 := (Q.sk_spec h2.q g3).1
 rw [len3] at k3
 have h3 := RS.sy_ok hb h2 g3
 obtain ⟨a1,a2,a3,a4,a5⟩ := two14_facts hb (ord14 rate) (k + 3) _ [] h3 (fun x hx => by simp at hx)
 obtain ⟨h5,u0,u1⟩ := RS.un_ok hb a1 (ft:=5) (by omega) (by omega)
 obtain ⟨c1,c2,c3,c4,c5⟩ := gns14_facts hb (cnt14 ms) _ (s.w.val b 1 == 1) _ was [] h5 (fun x hx => by simp at hx)
 have hL := ltp14_facts (lo:=lo8 rate) hb f0 f1 (cnt14 ms) _ _ [] c1 (fun x hx => by simp at hx)
 have elw : lo8 rate + lw14 rate - 1 = hi8 rate := by unfold lw14; omega
 rw [elw] at hL
 obtain ⟨d1,d2,d3⟩ := hL
 have key : ∀ (L : RS × List (List Int)),L = (if ((s.bit b).q.sk (icdfT 0) : Int) = 2 then ltp14 b (lo8 rate) (lw14 rate) (cnt14 ms) (gns14 b (cnt14 ms) (s.w.val b 1 == 1) ((two14 b (ord14 rate) (((s.bit b).sy b (icdfT 0)).sy b (icdfT 3)) []).1.un b 5) was []).1 [] else ((gns14 b (cnt14 ms) (s.w.val b 1 == 1) ((two14 b (ord14 rate) (((s.bit b).sy b (icdfT 0)).sy b (icdfT 3)) []).1.un b 5) was []).1,[])) ->
   L.1.Ok (k + 40) /\ (((s.bit b).q.sk (icdfT 0) : Int) ≠ 2 -> L.2 = []) /\ (((s.bit b).q.sk (icdfT 0) : Int) = 2 -> L.2.length = cnt14 ms) /\ (∀ r ∈ L.2,GoodLtp (lo8 rate) (hi8 rate) r) := by
  intro L hL
  by_cases hk2 : ((s.bit b).q.sk (icdfT 0) : Int) = 2
  ·rw [if_pos hk2] at hL
   subst hL
   exact ⟨d1.mono (by omega),fun h => absurd hk2 h,fun _ => by rw [d2]; simp,d3⟩
  ·rw [if_neg hk2] at hL
   subst hL
   exact ⟨c1.mono (by omega),fun _ => rfl,fun h => absurd h hk2,fun r hr => by simp at hr⟩
 obtain ⟨e1,e2,e3,e4⟩ := key _ rfl
 unfold fr14
 simp only
 generalize (if ((s.bit b).q.sk (icdfT 0) : Int) = 2 then _ else _ : RS × List (List Int)) = L at e1 e2 e3 e4 ⊢
 obtain ⟨p1,p2,p3⟩ := RS.pu_facts hb e1 m6 m7
 refine ⟨?_,by omega,by omega,by omega,by omega,by rw [a4]; simp,a5,u0,by omega,by rw [c4]; simp,c5,e2,e3,e4,fun h => by rw [if_pos h],fun h => by rw [if_neg h]; exact ⟨p2,p3⟩⟩
 split
 ·exact e1.mono (by omega)
 ·exact p1.mono (by omega)
theorem spreadf_F (hb : Bytes b) (hl : b.length < 140737488351233) {rate ms : Int} (hm : May14 rate ms) (was : Int) {s : RS} {k : Nat} (h : s.Ok k) (hk : k <= 100) (hN : 30000 <= N) :
  Rc.spreadf.F N rate ms was s.q.rng s.q.val s.q.last (fr b s.q.m) (fr b s.w.k) s.w.win (s.w.wai : Int) s.ct s.bad b =
   some ((fr14 b rate ms was s).kind,(fr14 b rate ms was s).one,(fr14 b rate ms was s).btw,0,(fr14 b rate ms was s).s.q.rng,(fr14 b rate ms was s).s.q.val,(fr14 b rate ms was s).s.q.last,fr b (fr14 b rate ms was s).s.q.m,fr b (fr14 b rate ms was s).s.w.k,(fr14 b rate ms was s).s.w.win,((fr14 b rate ms was s).s.w.wai : Int),(fr14 b rate ms was s).s.ct,(fr14 b rate ms was s).fresh,(fr14 b rate ms was s).s.bad,(fr14 b rate ms was s).two,(fr14 b rate ms was s).gains,(fr14 b rate ms was s).pulses,(fr14 b rate ms was s).ltps) := by
 obtain ⟨m1,m2,m3,m4,m5,m6,m7,m8⟩ := may_facts hm
 obtain ⟨f0,f1,z0,l0,l1,l2,l3⟩ := lw14_of hm.1
 have ho := ord14_le rate
 obtain ⟨t0,t1⟩ := RS.ct_rg h (by omega)
 have h1 := RS.bit_ok hb h
 obtain ⟨t10,t11⟩ := RS.ct_rg h1 (by omega)
 have h2 := RS.sy_ok hb h1 g0
 obtain ⟨t20,t21⟩ := RS.ct_rg h2 (by omega)
 have h3 := RS.sy_ok hb h2 g3
 obtain ⟨a1,a2,a3,a4,a5⟩ := two14_facts hb (ord14 rate) (k + 3) _ [] h3 (fun x hx => by simp at hx)
 obtain ⟨h5,u0,u1⟩ := RS.un_ok hb a1 (ft:=5) (by omega) (by omega)
 obtain ⟨c1,c2,c3,c4,c5⟩ := gns14_facts hb (cnt14 ms) _ (s.w.val b 1 == 1) _ was [] h5 (fun x hx => by simp at hx)
 have hT := spread_two (ord:=ord14 rate) (kind:=((s.bit b).q.sk (icdfT 0) : Int)) (one:=(((s.bit b).sy b (icdfT 0)).q.sk (icdfT 3) : Int)) (btw:=0) (fresh:=s.w.val b 1 == 1) hb (fun _ => hl) hN N (ord14 rate) 0 (k + 3) _ [] h3 (by omega) (by omega) (by omega) rfl (by omega)
 have hU := (RS.un_F (N:=N) hb hl a1 (by omega) (ft:=5) (by omega) (by omega) (by omega)).1
 have hG := spread_gains (cnt:=cnt14 ms) (kind:=((s.bit b).q.sk (icdfT 0) : Int)) (one:=(((s.bit b).sy b (icdfT 0)).q.sk (icdfT 3) : Int)) (btw:=(two14 b (ord14 rate) (((s.bit b).sy b (icdfT 0)).sy b (icdfT 3)) []).1.uv b 5) (fresh:=s.w.val b 1 == 1) (two:=(two14 b (ord14 rate) (((s.bit b).sy b (icdfT 0)).sy b (icdfT 3)) []).2) hb (fun _ => hl) hN N (cnt14 ms) 0 (k + 3 + ord14 rate + 1) _ was [] h5 (by omega) (by omega) (by omega) rfl (by omega)
 rw [show (decide (0 = 0) && (s.w.val b 1 == 1)) = (s.w.val b 1 == 1) by simp] at hG
 unfold Rc.spreadf.F
 rw [spmay_F,obind_of,br_not,if_pos (by simpa [May14] using hm)]
 simp only [br_beq,br_bne,chkL_same]
 rw [bits_F hb hl h.w 1 t0 (by omega) (by omega),obind_of,if_pos (by omega),ticdf_F,obind_of]
 simp only
 rw [show (1 : Int).toNat = 1 from rfl]
 have hC : s.ct + 1 = (s.bit b).ct := by simp only [RS.ct,RS.bit]; omega
 rw [hC]
 have q0 : Rc.symbol.F N s.q.rng s.q.val s.q.last (fr b s.q.m) (fr b (s.w.next b 1).k) (s.w.next b 1).win ((s.w.next b 1).wai : Int) (s.bit b).ct s.bad (icdfT 0) b = _ := (symbol_F hb hl h1.q (icdfT 0) t10 (by omega) (by omega)).1 g0
 rw [q0,obind_of]
 simp only
 rw [ticdf_F,obind_of,ct_of (Q.sy_m b _ (icdfT 0)).1]
 have q3 : Rc.symbol.F N ((s.bit b).q.sy b (icdfT 0)).rng ((s.bit b).q.sy b (icdfT 0)).val ((s.bit b).q.sy b (icdfT 0)).last (fr b ((s.bit b).q.sy b (icdfT 0)).m) (fr b (s.w.next b 1).k) (s.w.next b 1).win ((s.w.next b 1).wai : Int) ((s.bit b).C + 8 * (((s.bit b).q.sy b (icdfT 0)).m : Int)) s.bad (icdfT 3) b = _ := (symbol_F hb hl h2.q (icdfT 3) t20 (by omega) (by omega)).1 g3
 rw [q3,obind_of]
 simp only
 have e3 : ct ((s.bit b).sy b (icdfT 0)).ct ((s.bit b).sy b (icdfT 0)).q (((s.bit b).sy b (icdfT 0)).q.sy b (icdfT 3)) = (((s.bit b).sy b (icdfT 0)).sy b (icdfT 3)).ct := ct_of (Q.sy_m b _ (icdfT 3)).1 _
 rw [torder_F,obind_of,e3]
 refine obind_step hT ?_
 simp only
 rw [a2,a3] at hU
 refine obind_step hU ?_
 simp only
 rw [m2,i64 (x:=(cnt14 ms : Int)) (by omega) (by omega)]
 rw [show ((0 : Nat) : Int) = 0 from rfl] at hG
 rw [hG,obind_of]
 have egl : (gns14 b (cnt14 ms) (s.w.val b 1 == 1) ((two14 b (ord14 rate) (((s.bit b).sy b (icdfT 0)).sy b (icdfT 3)) []).1.un b 5) was []).2.length = cnt14 ms := by rw [c4]; simp
 simp only [egl]
 unfold fr14
 simp only
 by_cases hk2 : ((s.bit b).q.sk (icdfT 0) : Int) = 2
 ·have hL := spread_ltps (cnt:=cnt14 ms) (kind:=((s.bit b).q.sk (icdfT 0) : Int)) (one:=(((s.bit b).sy b (icdfT 0)).q.sk (icdfT 3) : Int)) (btw:=(two14 b (ord14 rate) (((s.bit b).sy b (icdfT 0)).sy b (icdfT 3)) []).1.uv b 5) (fresh:=s.w.val b 1 == 1) (two:=(two14 b (ord14 rate) (((s.bit b).sy b (icdfT 0)).sy b (icdfT 3)) []).2) (gains:=(gns14 b (cnt14 ms) (s.w.val b 1 == 1) ((two14 b (ord14 rate) (((s.bit b).sy b (icdfT 0)).sy b (icdfT 3)) []).1.un b 5) was []).2) hb (fun _ => hl) hN hm.1 N (cnt14 ms) 0 _ _ [] c1 (by omega) (by omega) (by omega) rfl (by omega)
  rw [c2,c3] at hL
  obtain ⟨d1,d2,d3⟩ := ltp14_facts (lo:=lo8 rate) hb f0 f1 (cnt14 ms) _ _ [] c1 (fun x hx => by simp at hx)
  rw [show ((0 : Nat) : Int) = 0 from rfl] at hL
  rw [if_pos hk2,hL,obind_of]
  simp only
  rw [if_neg (by omega),m8,m5,i64 (x:=16 * (blk14 rate ms : Int)) (by omega) (by omega),read9_S hb hl d1 (by omega) m6 m7 hN,obind_of]
  simp only [if_pos hk2,if_neg (show ¬ ((s.bit b).q.sk (icdfT 0) : Int) = 0 by omega)]
 ·rw [if_neg hk2]
  by_cases hk0 : ((s.bit b).q.sk (icdfT 0) : Int) = 0
  ·rw [if_pos hk0]
   simp only [if_neg hk2,if_pos hk0]
   rw [<- c2,<- c3]
  ·have hr := read9_S (N:=N) hb hl c1 (by omega) m6 m7 hN
   rw [c2,c3] at hr
   rw [if_neg hk0,m8,m5,i64 (x:=16 * (blk14 rate ms : Int)) (by omega) (by omega),hr,obind_of]
   simp only [if_neg hk2,if_neg hk0]
end
end Go.Pl
/-
 Layer 14: the reference's reading; frames compared; what a frame may be.
 Conditions: none.
-/
namespace Go.Pl
open Go.Eng Go.Proofs
theorem chkR_same {Y : Type} (x : List (List Int)) (k : Option Y) : chkR x x k = k := by simp [chkR]
theorem same14_loop {N : Nat} {a b e1 e2 : List Int} (hab : a.length = b.length) (hl : a.length <= 1000000) (s : Bool) : ∀ (nn k : Nat),k <= a.length -> a.length - k < nn ->
  (a.drop k = b.drop k -> Rc.same14.loop4 N nn e1 e2 a b k s = some (.inl s)) /\ (a.drop k ≠ b.drop k -> Rc.same14.loop4 N nn e1 e2 a b k s = some (.inr false))
 | 0,k,_,h => by omega
 | nn + 1,k,hk,h => by
  unfold Rc.same14.loop4
  simp only [br_dec,br_bne,chkL_same]
  by_cases c : k < a.length
  ·have ih := same14_loop (N:=N) (e1:=e1) (e2:=e2) hab hl s nn (k + 1) (by omega) (by omega)
   rw [show ((k + 1 : Nat) : Int) = (k : Int) + 1 by omega] at ih
   rw [if_pos (by omega),chk_pos (by omega),chk_pos (by omega),Int.toNat_natCast,i64 (by omega) (by omega),drop_cons c,drop_cons (show k < b.length by omega)]
   by_cases d : a.getD k 0 = b.getD k 0
   ·rw [if_pos d,d]
    refine ⟨fun he => ih.1 (List.cons.inj he).2,fun he => ih.2 fun h2 => he (by rw [h2])⟩
   ·rw [if_neg d]
    exact ⟨fun he => absurd (List.cons.inj he).1 d,fun _ => rfl⟩
  ·rw [if_neg (by omega)]
   exact ⟨fun _ => rfl,fun he => absurd (by rw [List.drop_eq_nil_of_le (by omega),List.drop_eq_nil_of_le (by omega)]) he⟩
theorem same14_F {N : Nat} (a b : List Int) (hl : a.length <= 1000000) (hN : a.length < N) : Rc.same14.F N a b = some (decide (a = b)) := by
 unfold Rc.same14.F
 rw [br_bne]
 by_cases c : a.length = b.length
 ·rw [if_pos (by omega)]
  have h := same14_loop (N:=N) (e1:=a) (e2:=b) c hl false N 0 (by omega) (by omega)
  rw [show ((0 : Nat) : Int) = 0 from rfl,List.drop_zero,List.drop_zero] at h
  by_cases d : a = b
  ·rw [h.1 d,osum_inl,decide_eq_true d]
  ·rw [h.2 d,decide_eq_false d]; rfl
 ·rw [if_neg (by omega),decide_eq_false (fun h => c (by rw [h]))]
theorem lgood_loop {N : Nat} {e0 : Int} {e1 : Int} {e2 : List Int} {l : List Int} (hl : l.length <= 1000000) (s : Bool) : ∀ (nn k : Nat),k <= l.length -> l.length - k < nn ->
  Rc.lgood.loop4 N nn e0 e1 e2 (l.length : Int) l (k : Int) s = if ∀ x ∈ l.drop k,(-4 : Int) <= x /\ x <= 4 then some (.inl s) else some (.inr false)
 | 0,k,_,h => by omega
 | nn + 1,k,hk,h => by
  unfold Rc.lgood.loop4
  simp only [br_dec,chkL_same,chkI_same]
  by_cases c : k < l.length
  ·have ih := lgood_loop (N:=N) (e0:=e0) (e1:=e1) (e2:=e2) hl s nn (k + 1) (by omega) (by omega)
   rw [show ((k + 1 : Nat) : Int) = (k : Int) + 1 by omega] at ih
   rw [if_pos (by omega),chk_pos (by omega),Int.toNat_natCast,i64 (by omega) (by omega),drop_cons c]
   by_cases d : l.getD k 0 < -4
   ·rw [if_pos d,if_neg (fun h => by have := (h _ (List.mem_cons_self ..)).1; omega)]; rfl
   ·rw [if_neg d]
    by_cases d' : l.getD k 0 > 4
    ·rw [if_pos d',if_neg (fun h => by have := (h _ (List.mem_cons_self ..)).2; omega)]; rfl
    ·rw [if_neg d',ih]
     have e : (∀ x ∈ l.getD k 0 :: l.drop (k + 1),(-4 : Int) <= x /\ x <= 4) ↔ ∀ x ∈ l.drop (k + 1),(-4 : Int) <= x /\ x <= 4 :=
      ⟨fun h x hx => h x (List.mem_cons_of_mem _ hx),fun h x hx => (List.mem_cons.1 hx).elim (fun he => by rw [he]; omega) (fun hx => h x hx)⟩
     simp only [e]
  ·rw [if_neg (by omega),if_pos (fun x hx => by rw [List.drop_eq_nil_of_le (by omega)] at hx; simp at hx)]
theorem spgood_loop {N : Nat} {e0 : Int} {e1 : Int} {e2 : Int} {e3 : Int} {e4 : Int} {e5 : Bool} {e6 : List Int} {e7 : List Int} {e8 : List Int} {e9 : List (List Int)} {l : List Int} (hl : l.length <= 1000000) (s : Bool) : ∀ (nn k : Nat),k <= l.length -> l.length - k < nn ->
  Rc.spgood.loop4 N nn e0 e1 e2 e3 e4 e5 e6 e7 e8 e9 (l.length : Int) l (k : Int) s = if ∀ x ∈ l.drop k,(0 : Int) <= x /\ x <= 63 then some (.inl s) else some (.inr false)
 | 0,k,_,h => by omega
 | nn + 1,k,hk,h => by
  unfold Rc.spgood.loop4
  simp only [br_dec,chkL_same,chkI_same]
  by_cases c : k < l.length
  ·have ih := spgood_loop (N:=N) (e0:=e0) (e1:=e1) (e2:=e2) (e3:=e3) (e4:=e4) (e5:=e5) (e6:=e6) (e7:=e7) (e8:=e8) (e9:=e9) hl s nn (k + 1) (by omega) (by omega)
   rw [show ((k + 1 : Nat) : Int) = (k : Int) + 1 by omega] at ih
   rw [if_pos (by omega),chk_pos (by omega),Int.toNat_natCast,i64 (by omega) (by omega),drop_cons c]
   by_cases d : l.getD k 0 < 0
   ·rw [if_pos d,if_neg (fun h => by have := (h _ (List.mem_cons_self ..)).1; omega)]; rfl
   ·rw [if_neg d]
    by_cases d' : l.getD k 0 > 63
    ·rw [if_pos d',if_neg (fun h => by have := (h _ (List.mem_cons_self ..)).2; omega)]; rfl
    ·rw [if_neg d',ih]
     have e : (∀ x ∈ l.getD k 0 :: l.drop (k + 1),(0 : Int) <= x /\ x <= 63) ↔ ∀ x ∈ l.drop (k + 1),(0 : Int) <= x /\ x <= 63 :=
      ⟨fun h x hx => h x (List.mem_cons_of_mem _ hx),fun h x hx => (List.mem_cons.1 hx).elim (fun he => by rw [he]; omega) (fun hx => h x hx)⟩
     simp only [e]
  ·rw [if_neg (by omega),if_pos (fun x hx => by rw [List.drop_eq_nil_of_le (by omega)] at hx; simp at hx)]
theorem getM_drop {l : List (List Int)} {k : Nat} (h : k < l.length) : l.drop k = l.getD k [] :: l.drop (k + 1) := by
 rw [List.drop_eq_getElem_cons h]; simp [List.getD_eq_getElem?_getD,List.getElem?_eq_getElem h]
theorem spltps_loop {N : Nat} {e0 : Int} {e1 e2 e3 : Int} {e4 : Bool} {e5 e6 e7 : List Int} {e8 : List (List Int)} {lo hi : Int} {l : List (List Int)} (hl : l.length <= 1000000) (s : Bool) : ∀ (nn k : Nat),k <= l.length -> l.length - k < nn ->
  Rc.spltps.loop5 N nn e0 e1 e2 e3 e4 e5 e6 e7 e8 lo hi (l.length : Int) l (k : Int) s = if ∀ r ∈ l.drop k,lo <= r.headD 0 /\ r.headD 0 <= hi /\ 0 <= r.tail.headD 0 /\ r.tail.headD 0 <= 7 then some (.inl s) else some (.inr false)
 | 0,k,_,h => by omega
 | nn + 1,k,hk,h => by
  unfold Rc.spltps.loop5
  simp only [br_dec,chkL_same,chkI_same,chkR_same]
  by_cases c : k < l.length
  ·have ih := spltps_loop (N:=N) (e0:=e0) (e1:=e1) (e2:=e2) (e3:=e3) (e4:=e4) (e5:=e5) (e6:=e6) (e7:=e7) (e8:=e8) (lo:=lo) (hi:=hi) hl s nn (k + 1) (by omega) (by omega)
   rw [show ((k + 1 : Nat) : Int) = (k : Int) + 1 by omega] at ih
   have hf : Rc.tfilters.F N = some 8 := rfl
   rw [if_pos (by omega),chk_pos (by omega),Int.toNat_natCast,i64 (by omega) (by omega),getM_drop c,hf]
   simp only [obind_of]
   by_cases d1 : (l.getD k []).headD 0 < lo
   ·rw [if_pos d1,if_neg (fun h => by have := (h _ (List.mem_cons_self ..)).1; omega)]; rfl
   rw [if_neg d1]
   by_cases d2 : (l.getD k []).headD 0 > hi
   ·rw [if_pos d2,if_neg (fun h => by have := (h _ (List.mem_cons_self ..)).2.1; omega)]; rfl
   rw [if_neg d2]
   by_cases d3 : (l.getD k []).tail.headD 0 < 0
   ·rw [if_pos d3,if_neg (fun h => by have := (h _ (List.mem_cons_self ..)).2.2.1; omega)]; rfl
   rw [if_neg d3]
   by_cases d4 : (l.getD k []).tail.headD 0 >= 8
   ·rw [if_pos d4,if_neg (fun h => by have := (h _ (List.mem_cons_self ..)).2.2.2; omega)]; rfl
   rw [if_neg d4,ih]
   have e : (∀ r ∈ l.getD k [] :: l.drop (k + 1),lo <= r.headD 0 /\ r.headD 0 <= hi /\ 0 <= r.tail.headD 0 /\ r.tail.headD 0 <= 7) ↔ ∀ r ∈ l.drop (k + 1),lo <= r.headD 0 /\ r.headD 0 <= hi /\ 0 <= r.tail.headD 0 /\ r.tail.headD 0 <= 7 :=
    ⟨fun h x hx => h x (List.mem_cons_of_mem _ hx),fun h x hx => by
     rcases List.mem_cons.1 hx with rfl | hx
     ·omega
     ·exact h x hx⟩
   simp only [e]
  ·rw [if_neg (by omega),if_pos (fun x hx => by rw [List.drop_eq_nil_of_le (by omega)] at hx; simp at hx)]
structure GoodF (rate ms kind one btw : Int) (two gains pulses : List Int) (ltps : List (List Int)) : Prop where
 may : May14 rate ms
 kd : 0 <= kind /\ kind <= 2
 on : 0 <= one /\ one <= 15
 tw : two.length = ord14 rate /\ ∀ x ∈ two,-4 <= x /\ x <= 4
 bt : 0 <= btw /\ btw <= 4
 ga : gains.length = cnt14 ms /\ ∀ x ∈ gains,0 <= x /\ x <= 63
 lt : if kind = 2 then ltps.length = cnt14 ms /\ ∀ r ∈ ltps,lo8 rate <= r.headD 0 /\ r.headD 0 <= hi8 rate /\ 0 <= r.tail.headD 0 /\ r.tail.headD 0 <= 7 else ltps = []
 pu : if kind = 0 then pulses = [] else pulses.length = 16 * blk14 rate ms /\ goodB pulses = true
section
variable {N : Nat}
theorem spgood_F (hN : 30000 <= N) {rate ms kind one btw : Int} {fresh : Bool} {two gains pulses : List Int} {ltps : List (List Int)} (l3 : ltps.length <= 1000000) :
  (GoodF rate ms kind one btw two gains pulses ltps -> Rc.spgood.F N rate ms kind one btw fresh two gains pulses ltps = some true) /\
  (¬ GoodF rate ms kind one btw two gains pulses ltps -> ltps.length < N -> Rc.spgood.F N rate ms kind one btw fresh two gains pulses ltps = some false) := by
 have main : ltps.length < N -> (GoodF rate ms kind one btw two gains pulses ltps -> Rc.spgood.F N rate ms kind one btw fresh two gains pulses ltps = some true) /\ (¬ GoodF rate ms kind one btw two gains pulses ltps -> Rc.spgood.F N rate ms kind one btw fresh two gains pulses ltps = some false) := by
  intro n3
  unfold Rc.spgood.F
  simp only [br_dec,br_bne,br_not,chkI_same,chkL_same,spmay_F,obind_of,decide_eq_true_eq]
  rcases Classical.em (¬ (May14 rate ms)) with c1 | c1
  ·rw [if_neg (by simpa [May14] using c1)]
   exact ⟨fun h => absurd h.may c1,fun _ => rfl⟩
  have c1 := Classical.not_not.1 c1
  obtain ⟨m1,m2,m3,m4,m5,m6,m7,m8⟩ := may_facts c1
  have ho := ord14_le rate
  rw [if_pos (by simpa [May14] using c1)]
  by_cases c2 : kind < 0
  ·rw [if_pos c2]; exact ⟨fun h => by have := h.kd; omega,fun _ => rfl⟩
  rw [if_neg c2]
  by_cases c3 : kind > 2
  ·rw [if_pos c3]; exact ⟨fun h => by have := h.kd; omega,fun _ => rfl⟩
  rw [if_neg c3,torder_F,obind_of]
  have hlg : Rc.lgood.F N (ord14 rate : Int) one two = some (decide (0 <= one /\ one <= 15 /\ two.length = ord14 rate /\ ∀ x ∈ two,-4 <= x /\ x <= 4)) := by
   have hu : ∃ u : Int,Rc.lunit.F N (ord14 rate : Int) = some u /\ u ≠ 0 := by
    rcases c1.1 with rfl | rfl
    ·exact ⟨400,rfl,by decide⟩
    ·exact ⟨250,rfl,by decide⟩
   obtain ⟨u,hu1,hu2⟩ := hu
   unfold Rc.lgood.F
   simp only [br_dec,br_bne,br_beq]
   rw [hu1,obind_of,if_neg hu2]
   by_cases d1 : one < 0
   ·rw [if_pos d1,decide_eq_false (by omega)]
   rw [if_neg d1]
   by_cases d2 : one >= 16
   ·rw [if_pos d2,decide_eq_false (by omega)]
   rw [if_neg d2]
   by_cases d3 : two.length = ord14 rate
   ·rw [if_pos (by omega)]
    have := lgood_loop (N:=N) (e0:=(ord14 rate : Int)) (e1:=one) (e2:=two) (l:=two) (by omega) false N 0 (by omega) (by omega)
    rw [show ((0 : Nat) : Int) = 0 from rfl,List.drop_zero] at this
    rw [this]
    by_cases d4 : ∀ x ∈ two,-4 <= x /\ x <= 4
    ·rw [if_pos d4,osum_inl,decide_eq_true ⟨by omega,by omega,d3,d4⟩]
    ·rw [if_neg d4,decide_eq_false (fun h => d4 h.2.2.2)]; rfl
   ·rw [if_neg (by omega),decide_eq_false (fun h => d3 h.2.2.1)]
  rw [hlg,obind_of]
  rcases Classical.em (¬ (0 <= one /\ one <= 15 /\ two.length = ord14 rate /\ ∀ x ∈ two,-4 <= x /\ x <= 4)) with c4 | c4
  ·rw [if_neg (by simpa using c4)]
   exact ⟨fun h => absurd ⟨h.on.1,h.on.2,h.tw⟩ c4,fun _ => rfl⟩
  have c4 := Classical.not_not.1 c4
  rw [if_pos (decide_eq_true c4)]
  by_cases c5 : btw < 0
  ·rw [if_pos c5]; exact ⟨fun h => by have := h.bt; omega,fun _ => rfl⟩
  rw [if_neg c5]
  by_cases c6 : btw >= 5
  ·rw [if_pos c6]; exact ⟨fun h => by have := h.bt; omega,fun _ => rfl⟩
  rw [if_neg c6,m2,i64 (x:=(cnt14 ms : Int)) (by omega) (by omega)]
  rcases Classical.em (¬ (gains.length = cnt14 ms)) with c7 | c7
  ·rw [if_neg (by omega)]; exact ⟨fun h => absurd h.ga.1 c7,fun _ => rfl⟩
  have c7 := Classical.not_not.1 c7
  rw [if_pos (by omega)]
  have hgl := spgood_loop (N:=N) (e0:=rate) (e1:=ms) (e2:=kind) (e3:=one) (e4:=btw) (e5:=fresh) (e6:=two) (e7:=gains) (e8:=pulses) (e9:=ltps) (l:=gains) (by omega) false N 0 (by omega) (by omega)
  rw [show ((0 : Nat) : Int) = 0 from rfl,List.drop_zero] at hgl
  rw [hgl]
  rcases Classical.em (¬ (∀ x ∈ gains,0 <= x /\ x <= 63)) with c8 | c8
  ·rw [if_neg c8]; exact ⟨fun h => absurd h.ga.2 c8,fun _ => rfl⟩
  have c8 := Classical.not_not.1 c8
  rw [if_pos c8,osum_inl]
  have hlt : Rc.spltps.F N rate kind one btw fresh two gains pulses ltps = some (decide (if kind = 2 then ltps.length = cnt14 ms /\ ∀ r ∈ ltps,lo8 rate <= r.headD 0 /\ r.headD 0 <= hi8 rate /\ 0 <= r.tail.headD 0 /\ r.tail.headD 0 <= 7 else ltps = [])) := by
   unfold Rc.spltps.F
   simp only [br_bne,glags_F,obind_of,chkL_same,chkI_same,chkB_same,chkR_same]
   by_cases d1 : kind = 2
   ·rw [if_pos d1]
    have := spltps_loop (N:=N) (e0:=rate) (e1:=kind) (e2:=one) (e3:=btw) (e4:=fresh) (e5:=two) (e6:=gains) (e7:=pulses) (e8:=ltps) (lo:=lo8 rate) (hi:=hi8 rate) (l:=ltps) l3 false N 0 (by omega) (by omega)
    rw [show ((0 : Nat) : Int) = 0 from rfl,List.drop_zero] at this
    rw [this]
    simp only [if_pos d1]
    by_cases d2 : ∀ r ∈ ltps,lo8 rate <= r.headD 0 /\ r.headD 0 <= hi8 rate /\ 0 <= r.tail.headD 0 /\ r.tail.headD 0 <= 7
    ·rw [if_pos d2,osum_inl,c7]
     congr 1
     by_cases d3 : ltps.length = cnt14 ms
     ·rw [decide_eq_true ⟨d3,d2⟩]; simp [d3]
     ·rw [decide_eq_false (fun h => d3 h.1)]; simp; omega
    ·rw [if_neg d2,decide_eq_false (fun h => d2 h.2)]; rfl
   ·rw [if_neg d1]
    simp only [if_neg d1]
    congr 1
    by_cases d3 : ltps = []
    ·simp [d3]
    ·rw [decide_eq_false d3]
     have : ltps.length ≠ 0 := fun h => d3 (List.eq_nil_of_length_eq_zero h)
     simp; omega
  rw [hlt,obind_of]
  rcases Classical.em (¬ ((if kind = 2 then ltps.length = cnt14 ms /\ ∀ r ∈ ltps,lo8 rate <= r.headD 0 /\ r.headD 0 <= hi8 rate /\ 0 <= r.tail.headD 0 /\ r.tail.headD 0 <= 7 else ltps = []))) with c9 | c9
  ·rw [decide_eq_false c9,br_false]; exact ⟨fun h => absurd h.lt c9,fun _ => rfl⟩
  have c9 := Classical.not_not.1 c9
  rw [decide_eq_true c9,br_true]
  have hpu : Rc.sppulses.F N rate ms kind one btw fresh two gains pulses ltps = some (decide (if kind = 0 then pulses = [] else pulses.length = 16 * blk14 rate ms /\ goodB pulses = true)) := by
   unfold Rc.sppulses.F
   simp only [br_beq,chkL_same,chkI_same,chkB_same,chkR_same]
   by_cases d1 : kind = 0
   ·rw [if_pos d1]
    simp only [if_pos d1]
    congr 1
    by_cases d3 : pulses = []
    ·simp [d3]
    ·rw [decide_eq_false d3]
     have : pulses.length ≠ 0 := fun h => d3 (List.eq_nil_of_length_eq_zero h)
     simp; omega
   ·rw [if_neg d1,m8,m5,i64 (x:=16 * (blk14 rate ms : Int)) (by omega) (by omega)]
    simp only [if_neg d1]
    by_cases d2 : pulses.length = 16 * blk14 rate ms
    ·rw [if_pos (by omega),good9_F _ hN,obind_of]
     congr 1
     cases hg : goodB pulses with
     | true => rw [decide_eq_true ⟨d2,rfl⟩]
     | false => rw [decide_eq_false (fun h => by simp at h)]
    ·rw [if_neg (by omega),decide_eq_false (fun h => d2 h.1)]
  rw [hpu,obind_of]
  by_cases c10 : (if kind = 0 then pulses = [] else pulses.length = 16 * blk14 rate ms /\ goodB pulses = true)
  ·rw [decide_eq_true c10]
   exact ⟨fun _ => rfl,fun h => absurd ⟨c1,by omega,⟨c4.1,c4.2.1⟩,c4.2.2,by omega,⟨c7,c8⟩,c9,c10⟩ h⟩
  ·rw [decide_eq_false c10]
   exact ⟨fun h => absurd h.pu c10,fun _ => rfl⟩
 refine ⟨fun h => ?_,fun h n3 => (main n3).2 h⟩
 have ho := ord14_le rate
 have hc := (may_facts h.may).2.2.2.1
 have h1 := h.tw.1
 have h2 := h.ga.1
 have h3 : ltps.length <= 4 := by
  have := h.lt
  split at this
  ·omega
  ·rw [this]; simp
 exact (main (by omega)).1 h
theorem own14_loop {k1 o1 b1 k2 o2 b2 : Int} {f1 f2 : Bool} {t1 g1 p1 t2 g2 p2 : List Int} {l : List (List Int)} (hl : l.length <= 1000000) : ∀ (nn k : Nat),k <= l.length -> l.length - k < nn ->
  Rc.own14.loop3 N nn k1 o1 b1 k2 o2 b2 f1 f2 t1 g1 p1 t2 g2 p2 l (k : Int) ((l.take k).map fun r => r.headD 0) ((l.take k).map fun r => r.tail.headD 0) = some (l.map fun r => r.headD 0,l.map fun r => r.tail.headD 0)
 | 0,k,_,h => by omega
 | nn + 1,k,hk,h => by
  unfold Rc.own14.loop3
  simp only [br_dec,chkL_same,chkI_same,chkB_same,chkR_same]
  by_cases c : k < l.length
  ·have ih := own14_loop (k1:=k1) (o1:=o1) (b1:=b1) (k2:=k2) (o2:=o2) (b2:=b2) (f1:=f1) (f2:=f2) (t1:=t1) (g1:=g1) (p1:=p1) (t2:=t2) (g2:=g2) (p2:=p2) hl nn (k + 1) (by omega) (by omega)
   rw [show ((k + 1 : Nat) : Int) = (k : Int) + 1 by omega] at ih
   have e : l.take (k + 1) = l.take k ++ [l.getD k []] := by
    rw [List.take_add_one]
    simp [List.getD_eq_getElem?_getD,List.getElem?_eq_getElem c]
   rw [e,List.map_append,List.map_append] at ih
   rw [if_pos (by omega),chk_pos (by omega),chk_pos (by simp; omega),chk_pos (by omega),chk_pos (by simp; omega),Int.toNat_natCast,i64 (by omega) (by omega)]
   exact ih
  ·rw [if_neg (by omega),List.take_of_length_le (by omega)]
theorem own14_F {kind one btw : Int} {fresh : Bool} {two gains pulses : List Int} {l : List (List Int)} (hl : l.length <= 1000000) (hN : l.length < N) :
  Rc.own14.F N kind one btw fresh two gains pulses l = some (kind,one,btw,fresh,two,gains,l.map (fun r => r.headD 0),l.map (fun r => r.tail.headD 0),pulses) := by
 unfold Rc.own14.F
 have := own14_loop (N:=N) (k1:=kind) (o1:=one) (b1:=btw) (k2:=kind) (o2:=one) (b2:=btw) (f1:=fresh) (f2:=fresh) (t1:=two) (g1:=gains) (p1:=pulses) (t2:=two) (g2:=gains) (p2:=pulses) hl N 0 (by omega) (by omega)
 refine obind_step this ?_
 rfl
end
end Go.Pl
/-
 Layer 14: what is made of frequencies: that it comes to an end, and how great it is.
 Conditions: none.
-/
namespace Go.Pl
open Go.Eng Go.Proofs
def Sat {X : Type} (x : Option X) (P : X -> Prop) : Prop := ∃ r,x = some r /\ P r
theorem Sat.some {X : Type} {r : X} {P : X -> Prop} (h : P r) : Sat (some r) P := ⟨r,rfl,h⟩
theorem Sat.obind {X Y : Type} {x : Option X} {k : X -> Option Y} {P : X -> Prop} {Q : Y -> Prop} (h : Sat x P) (hk : ∀ r,P r -> Sat (k r) Q) : Sat (obind x k) Q := by
 obtain ⟨r,rfl,hr⟩ := h
 exact hk r hr
theorem Sat.chk {Y : Type} {c : Prop} [Decidable c] {k : Option Y} {Q : Y -> Prop} (h : c) (hk : Sat k Q) : Sat (chk c k) Q := by rw [chk_pos h]; exact hk
theorem Sat.br {Y : Type} {b : Bool} {t e : Option Y} {Q : Y -> Prop} (ht : b = true -> Sat t Q) (he : b = false -> Sat e Q) : Sat (br b t e) Q := by
 cases b
 ·exact he rfl
 ·exact ht rfl
theorem Sat.mono {X : Type} {x : Option X} {P Q : X -> Prop} (h : Sat x P) (hq : ∀ r,P r -> Q r) : Sat x Q := by
 obtain ⟨r,h1,h2⟩ := h
 exact ⟨r,h1,hq r h2⟩
theorem Sat.eq {X : Type} {x : Option X} {v : X} {P : X -> Prop} (h : x = Option.some v) (hp : P v) : Sat x P := ⟨v,h,hp⟩
theorem chkN_same {Y : Type} (x : Nat) (k : Option Y) : chkN x x k = k := by simp [chkN]
def clp (lo hi a : Int) : Int := if a < lo then lo else if a > hi then hi else a
theorem clp_range {lo hi : Int} (h : lo <= hi) (a : Int) : lo <= clp lo hi a /\ clp lo hi a <= hi := by
 unfold clp
 split
 ·omega
 ·split <;> omega
section
variable {N : Nat}
theorem clamp_F {lo hi : Int} (h : lo <= hi) (a : Int) : Rc.clamp.F N a lo hi = some (clp lo hi a) := by
 unfold Rc.clamp.F clp
 simp only [br_dec]
 rw [if_neg (by omega)]
 split
 ·rfl
 ·split <;> rfl
theorem rclamp_F {lo hi : Int} (h : lo <= hi) (a : Int) : Rc.rclamp.F N a lo hi = some (clp lo hi a) := by
 unfold Rc.rclamp.F clp
 simp only [br_dec]
 split
 ·rfl
 ·rw [if_neg (by omega)]
  split <;> rfl
def fc (a : Int) : Int := clp (-2147483648) 2147483648 a
theorem fc_range (a : Int) : -2147483648 <= fc a /\ fc a <= 2147483648 := clp_range (by omega) a
theorem fc_id {a : Int} (h0 : -2147483648 <= a) (h1 : a <= 2147483648) : fc a = a := by unfold fc clp; rw [if_neg (by omega),if_neg (by omega)]
theorem factor_F (a : Int) : Rc.factor.F N a = some (fc a) := by
 unfold Rc.factor.F
 rw [clamp_F (by omega),obind_of]
 rfl
theorem prod_range {x y M : Int} (hx : -M <= x /\ x <= M) (hy : -M <= y /\ y <= M) : -(M * M) <= x * y /\ x * y <= M * M := by
 have hM : 0 <= M := by omega
 have key : ∀ a b : Int,0 <= a -> a <= M -> 0 <= b -> b <= M -> 0 <= a * b /\ a * b <= M * M := fun a b a0 a1 b0 b1 => ⟨Int.mul_nonneg a0 b0,Int.mul_le_mul a1 b1 b0 hM⟩
 rcases Int.le_total 0 x with h1 | h1 <;> rcases Int.le_total 0 y with h2 | h2
 ·have := key x y h1 hx.2 h2 hy.2; omega
 ·have := key x (-y) h1 hx.2 (by omega) (by omega); rw [Int.mul_neg] at this; omega
 ·have := key (-x) y (by omega) (by omega) h2 hy.2; rw [Int.neg_mul] at this; omega
 ·have := key (-x) (-y) (by omega) (by omega) (by omega) (by omega); rw [Int.neg_mul_neg] at this; omega
def ml (a b : Int) (s : Nat) : Int := (fc a * fc b + 2 ^ (s - 1)) / 2 ^ s
theorem pow_le61 {s : Nat} (h : s <= 61) : (1 : Int) <= 2 ^ s /\ (2 : Int) ^ s <= 2305843009213693952 := by
 have h1 := p2pos s
 have h2 : (2 : Int) ^ s <= 2 ^ 61 := p2le h
 have h3 : (2 : Int) ^ 61 = 2305843009213693952 := by decide
 omega
theorem fmul_F {s : Nat} (h0 : 1 <= s) (h1 : s <= 62) (a b : Int) : Rc.fmul.F N a b (s : Int) = some (ml a b s) := by
 obtain ⟨p0,p1⟩ := pow_le61 (s:=s - 1) (by omega)
 obtain ⟨q0,q1⟩ := prod_range (fc_range a) (fc_range b)
 unfold Rc.fmul.F ml
 simp only [br_dec,br_beq]
 rw [factor_F,obind_of,factor_F,obind_of,if_neg (by omega),if_neg (by omega),if_neg (by omega),i64 (x:=(s : Int) - 1) (by omega) (by omega),chk_pos (by omega),chk_pos (by omega),bits_i64,show ((s : Int) - 1).toNat = s - 1 by omega,Int.toNat_natCast,
  show min (s - 1) 64 = s - 1 by omega,show min s 64 = s by omega,Int.one_mul,i64 (x:=fc a * fc b) (by omega) (by omega),i64 (x:=(2 : Int) ^ (s - 1)) (by omega) (by omega),i64 (by omega) (by omega),fdiv_ediv (by have := p2pos s; omega)]
theorem half_round {p h : Int} (hh : 0 < h) : (p + h) / (2 * h) = if p - p / (2 * h) * (2 * h) >= h then p / (2 * h) + 1 else p / (2 * h) := by
 have e := Int.emod_add_mul_ediv p (2 * h)
 have r0 := Int.emod_nonneg p (show 2 * h ≠ 0 by omega)
 have r1 := Int.emod_lt_of_pos p (show 0 < 2 * h by omega)
 have e2 : p - p / (2 * h) * (2 * h) = p % (2 * h) := by rw [Int.mul_comm]; omega
 rw [e2]
 have e3 : p + h = p % (2 * h) + h + 2 * h * (p / (2 * h)) := by omega
 rw [e3,Int.add_mul_ediv_left _ _ (show 2 * h ≠ 0 by omega)]
 split
 ·have : (p % (2 * h) + h) / (2 * h) = 1 := by
   rw [show p % (2 * h) + h = p % (2 * h) - h + 2 * h * 1 by omega,Int.add_mul_ediv_left _ _ (show 2 * h ≠ 0 by omega),Int.ediv_eq_zero_of_lt (by omega) (by omega)]
   rfl
  omega
 ·rw [Int.ediv_eq_zero_of_lt (by omega) (by omega)]; omega
theorem rmul_F {s : Nat} (h0 : 1 <= s) (h1 : s <= 62) (a b : Int) : Rc.rmul.F N a b (s : Int) = some (ml a b s) := by
 obtain ⟨p0,p1⟩ := pow_le61 (s:=s - 1) (by omega)
 obtain ⟨q0,q1⟩ := prod_range (fc_range a) (fc_range b)
 have e2 : (2 : Int) ^ s = 2 * 2 ^ (s - 1) := by rw [show s = s - 1 + 1 by omega,Int.pow_succ,show s - 1 + 1 - 1 = s - 1 by omega]; omega
 unfold Rc.rmul.F ml
 simp only [br_dec,br_beq]
 rw [rclamp_F (by omega),obind_of,rclamp_F (by omega),obind_of,if_neg (by omega),if_neg (by omega),if_neg (by omega),i64 (x:=(s : Int) - 1) (by omega) (by omega),u64 (x:=(s : Int) - 1) (by omega) (by omega),u64 (x:=(s : Int)) (by omega) (by omega),
  chk_pos (by omega),chk_pos (by omega),chk_pos (by omega),bits_i64,show ((s : Int) - 1).toNat = s - 1 by omega,Int.toNat_natCast,show min (s - 1) 64 = s - 1 by omega,show min s 64 = s by omega,Int.one_mul]
 have ef : ∀ x,clp (-2147483648) 2147483648 x = fc x := fun _ => rfl
 simp only [ef]
 have hd := Int.ediv_mul_le (fc a * fc b) (show (2 : Int) ^ s ≠ 0 by omega)
 have hd2 := Int.lt_ediv_add_one_mul_self (fc a * fc b) (show (0 : Int) < 2 ^ s by omega)
 rw [Int.add_mul,Int.one_mul] at hd2
 rw [i64 (x:=fc a * fc b) (by omega) (by omega),i64 (x:=(2 : Int) ^ (s - 1)) (by omega) (by omega),fdiv_ediv (by omega)]
 have p2 : (2 : Int) ^ s <= 4611686018427387904 := by omega
 have b1 : -4611686018427387904 <= fc a * fc b / 2 ^ s := by
  rw [Int.le_ediv_iff_mul_le (by omega)]
  have : (-4611686018427387904 : Int) * 2 ^ s <= -4611686018427387904 := by
   have := Int.mul_le_mul_of_nonneg_left (show (1 : Int) <= 2 ^ s by omega) (show (0 : Int) <= 4611686018427387904 by omega)
   omega
  omega
 have b2 : fc a * fc b / 2 ^ s <= 4611686018427387904 := by
  have := Int.ediv_le_self (b:=2 ^ s) (a:=4611686018427387904) (by omega)
  have h2 := Int.ediv_le_ediv (show (0 : Int) < 2 ^ s by omega) (show fc a * fc b <= 4611686018427387904 by omega)
  omega
 have hr := half_round (p:=fc a * fc b) (h:=2 ^ (s - 1)) (by omega)
 rw [<- e2] at hr
 rw [hr,i64 (x:=fc a * fc b / 2 ^ s * 2 ^ s) (by omega) (by omega),i64 (x:=fc a * fc b - fc a * fc b / 2 ^ s * 2 ^ s) (by omega) (by omega),i64 (x:=fc a * fc b / 2 ^ s + 1) (by omega) (by omega)]
 split <;> rfl
theorem ml_part {v c M : Int} (hM : 0 <= M /\ M <= 131072) (hv : -M <= v /\ v <= M) (hc : 0 <= c /\ c <= 65536) : -M <= ml v c 16 /\ ml v c 16 <= M := by
 unfold ml
 rw [fc_id (a:=v) (by omega) (by omega),fc_id (a:=c) (by omega) (by omega)]
 have k1 : v * c <= M * 65536 := by
  rcases Int.le_total 0 v with h | h
  ·exact Int.mul_le_mul hv.2 hc.2 hc.1 hM.1
  ·have := Int.mul_nonneg (show 0 <= -v by omega) hc.1
   rw [Int.neg_mul] at this
   omega
 have k2 : -(M * 65536) <= v * c := by
  rcases Int.le_total 0 v with h | h
  ·have := Int.mul_nonneg h hc.1; omega
  ·have := Int.mul_le_mul (show -v <= M by omega) hc.2 hc.1 hM.1
   rw [Int.neg_mul] at this
   omega
 show -M <= (v * c + 32768) / 65536 /\ (v * c + 32768) / 65536 <= M
 omega
theorem fdiv_T (a b : Int) {s : Nat} (h : s <= 30) : Sat (Rc.fdiv.F N a b (s : Int)) fun _ => True := by
 unfold Rc.fdiv.F
 simp only [br_dec,br_beq]
 rw [factor_F,obind_of,factor_F,obind_of]
 split
 ·exact ⟨_,rfl,trivial⟩
 ·rename_i hb
  rw [if_neg (by omega),if_neg (by omega),chk_pos (by omega),chk_pos hb,chk_pos hb]
  exact Sat.br (fun _ => Sat.br (fun _ => ⟨_,rfl,trivial⟩) fun _ => ⟨_,rfl,trivial⟩) fun _ => ⟨_,rfl,trivial⟩
theorem fmul_T (a b : Int) {s : Nat} (h0 : 1 <= s) (h1 : s <= 62) : Sat (Rc.fmul.F N a b (s : Int)) fun _ => True := ⟨_,fmul_F h0 h1 a b,trivial⟩
theorem fseries_loop {x : Int} : ∀ (nn k : Nat) (l : List Int) (s : Int),k <= l.length -> l.length < 1000000 -> l.length - k < nn -> Sat (Rc.fseries.loop3 N nn x (l.length : Int) l s (k : Int)) fun _ => True
 | 0,k,l,s,_,_,h => by omega
 | nn + 1,k,l,s,hk,hl,h => by
  unfold Rc.fseries.loop3
  simp only [br_dec,chkI_same,chkL_same]
  by_cases c : k < l.length
  ·rw [if_pos (by omega),chk_pos (by omega)]
   refine Sat.obind (fmul_T (s:=30) _ _ (by omega) (by omega)) fun r _ => ?_
   rw [i64 (x:=(k : Int) + 1) (by omega) (by omega)]
   exact fseries_loop nn (k + 1) l _ (by omega) hl (by omega)
  ·rw [if_neg (by omega)]; exact ⟨_,rfl,trivial⟩
theorem fseries_T (hN : 30000 <= N) (x : Int) {l : List Int} (h0 : 1 <= l.length) (h1 : l.length <= 100) : Sat (Rc.fseries.F N x l) fun _ => True := by
 unfold Rc.fseries.F
 rw [chk_pos (by omega),chk_pos (by omega)]
 exact Sat.obind (fseries_loop N 0 _ _ (Nat.zero_le _) (by rw [List.length_take,List.length_drop]; omega) (by rw [List.length_take,List.length_drop]; omega)) fun r _ => ⟨_,rfl,trivial⟩
section
variable {a : Int}
theorem cosA_T (hN : 30000 <= N) (x : Int) (c : Bool) : Sat (obind (Rc.fmul.F N x 1686629713 14) fun r9 => obind (Rc.fmul.F N r9 r9 30) fun r10 => obind (Rc.fseries.F N r10 [(-296 : Int),26631,-1491308,44739243,-536870912,1073741824]) fun r11 => obind (Rc.fmul.F N r11 1 15) fun r12 => br c (some (IntKind.i64.wrap (0 - r12))) (some r12)) fun _ => True :=
 Sat.obind (fmul_T (s:=14) _ _ (by omega) (by omega)) fun _ _ => Sat.obind (fmul_T (s:=30) _ _ (by omega) (by omega)) fun _ _ => Sat.obind (fseries_T hN _ (by decide) (by decide)) fun _ _ => Sat.obind (fmul_T (s:=15) _ _ (by omega) (by omega)) fun _ _ => Sat.br (fun _ => ⟨_,rfl,trivial⟩) fun _ => ⟨_,rfl,trivial⟩
theorem cosB_T (hN : 30000 <= N) (x : Int) (c : Bool) : Sat (obind (Rc.fmul.F N x 1686629713 14) fun r13 => obind (Rc.fmul.F N r13 r13 30) fun r14 => obind (Rc.fseries.F N r14 [(2959 : Int),-213044,8947849,-178956971,1073741824]) fun r15 => obind (Rc.fmul.F N r13 r15 30) fun r16 => obind (Rc.fmul.F N r16 1 15) fun r17 => br c (some (IntKind.i64.wrap (0 - r17))) (some r17)) fun _ => True :=
 Sat.obind (fmul_T (s:=14) _ _ (by omega) (by omega)) fun _ _ => Sat.obind (fmul_T (s:=30) _ _ (by omega) (by omega)) fun _ _ => Sat.obind (fseries_T hN _ (by decide) (by decide)) fun _ _ => Sat.obind (fmul_T (s:=30) _ _ (by omega) (by omega)) fun _ _ => Sat.obind (fmul_T (s:=15) _ _ (by omega) (by omega)) fun _ _ => Sat.br (fun _ => ⟨_,rfl,trivial⟩) fun _ => ⟨_,rfl,trivial⟩
end
theorem fcos_T (hN : 30000 <= N) (a : Int) : Sat (Rc.fcos.F N a) fun _ => True := by
 unfold Rc.fcos.F
 exact Sat.br (fun _ => Sat.br (fun _ => Sat.br (fun _ => cosA_T hN _ _) fun _ => cosB_T hN _ _) fun _ => Sat.br (fun _ => cosA_T hN _ _) fun _ => cosB_T hN _ _)
  fun _ => Sat.br (fun _ => Sat.br (fun _ => cosA_T hN _ _) fun _ => cosB_T hN _ _) fun _ => Sat.br (fun _ => cosA_T hN _ _) fun _ => cosB_T hN _ _
end
end Go.Pl
/-
 Layer 14: frequencies and filters: that they come to an end, how many numbers, how great.
 Conditions: none.
-/
namespace Go.Pl
open Go.Eng Go.Proofs
section
variable {N : Nat}
theorem lclamped_loop3_T {l : List Int} (hl : l.length <= 1000) : ∀ (nn k : Nat) (l0 : List Int),k <= l.length -> l0.length = l.length -> l.length - k < nn -> (∀ x ∈ l0.take k,(0 : Int) <= x /\ x <= 32768) ->
  Sat (Rc.lclamped.loop3 N nn (l.length : Int) l (k : Int) l0) fun r => r.length = l.length /\ ∀ x ∈ r,(0 : Int) <= x /\ x <= 32768
 | 0,k,l0,_,_,h,_ => by omega
 | nn + 1,k,l0,hk,h0,h,hx => by
  unfold Rc.lclamped.loop3
  simp only [br_dec,chkI_same,chkL_same]
  by_cases c : k < l.length
  ·have hc := clp_range (lo:=0) (hi:=32768) (by omega) (l.getD k 0)
   rw [if_pos (by omega),chk_pos (by omega),clamp_F (by omega),obind_of,chk_pos (by omega),Int.toNat_natCast,i64 (x:=(k : Int) + 1) (by omega) (by omega)]
   refine lclamped_loop3_T hl nn (k + 1) _ (by omega) (by simpa using h0) (by omega) fun x hx' => ?_
   rw [List.take_add_one,List.take_set_of_le (by omega),List.getElem?_set_self (by omega)] at hx'
   rcases List.mem_append.1 hx' with h1 | h1
   ·exact hx x h1
   ·simp only [Option.toList_some,List.mem_singleton] at h1
    omega
  ·rw [if_neg (by omega)]
   exact Sat.some ⟨h0,fun x hx' => hx x (by rwa [List.take_of_length_le (by omega)])⟩
theorem lfit_loop5_T {l : List Int} (hl : l.length <= 1000) : ∀ (nn k : Nat) (l0 : List Int),k <= l.length -> l0.length = l.length -> l.length - k < nn -> (∀ x ∈ l0.take k,(-131072 : Int) <= x /\ x <= 131072) ->
  Sat (Rc.lfit.loop5 N nn (l.length : Int) l (k : Int) l0) fun r => r.length = l.length /\ ∀ x ∈ r,(-131072 : Int) <= x /\ x <= 131072
 | 0,k,l0,_,_,h,_ => by omega
 | nn + 1,k,l0,hk,h0,h,hx => by
  unfold Rc.lfit.loop5
  simp only [br_dec,chkI_same,chkL_same]
  by_cases c : k < l.length
  ·have hc := clp_range (lo:=-131072) (hi:=131072) (by omega) (l.getD k 0)
   rw [if_pos (by omega),chk_pos (by omega),clamp_F (by omega),obind_of,chk_pos (by omega),Int.toNat_natCast,i64 (x:=(k : Int) + 1) (by omega) (by omega)]
   refine lfit_loop5_T hl nn (k + 1) _ (by omega) (by simpa using h0) (by omega) fun x hx' => ?_
   rw [List.take_add_one,List.take_set_of_le (by omega),List.getElem?_set_self (by omega)] at hx'
   rcases List.mem_append.1 hx' with h1 | h1
   ·exact hx x h1
   ·simp only [Option.toList_some,List.mem_singleton] at h1
    omega
  ·rw [if_neg (by omega)]
   exact Sat.some ⟨h0,fun x hx' => hx x (by rwa [List.take_of_length_le (by omega)])⟩
theorem lstable_loop5_T {l : List Int} (hl : l.length <= 1000) : ∀ (nn k : Nat) (l0 : List Int),k <= l.length -> l0.length = l.length -> l.length - k < nn -> (∀ x ∈ l0.take k,(-536870912 : Int) <= x /\ x <= 536870912) ->
  Sat (Rc.lstable.loop5 N nn (l.length : Int) l (k : Int) l0) fun r => r.length = l.length /\ ∀ x ∈ r,(-536870912 : Int) <= x /\ x <= 536870912
 | 0,k,l0,_,_,h,_ => by omega
 | nn + 1,k,l0,hk,h0,h,hx => by
  unfold Rc.lstable.loop5
  simp only [br_dec,chkI_same,chkL_same]
  by_cases c : k < l.length
  ·have hc := clp_range (lo:=-131072) (hi:=131072) (by omega) (l.getD k 0)
   rw [if_pos (by omega),chk_pos (by omega),clamp_F (by omega),obind_of,chk_pos (by omega),Int.toNat_natCast,i64 (x:=(k : Int) + 1) (by omega) (by omega),i64 (x:=4096 * _) (by omega) (by omega)]
   refine lstable_loop5_T hl nn (k + 1) _ (by omega) (by simpa using h0) (by omega) fun x hx' => ?_
   rw [List.take_add_one,List.take_set_of_le (by omega),List.getElem?_set_self (by omega)] at hx'
   rcases List.mem_append.1 hx' with h1 | h1
   ·exact hx x h1
   ·simp only [Option.toList_some,List.mem_singleton] at h1
    omega
  ·rw [if_neg (by omega)]
   exact Sat.some ⟨h0,fun x hx' => hx x (by rwa [List.take_of_length_le (by omega)])⟩
theorem lclamped_T (hN : 30000 <= N) {l : List Int} (hl : l.length <= 1000) : Sat (Rc.lclamped.F N l) fun r => r.length = l.length /\ ∀ x ∈ r,0 <= x /\ x <= 32768 := by
 unfold Rc.lclamped.F
 rw [chk_pos (by omega),Int.toNat_natCast]
 have := lclamped_loop3_T (N:=N) hl N 0 (List.replicate l.length 0) (Nat.zero_le _) (by simp) (by omega) (fun x hx => by simp at hx)
 exact Sat.obind this fun r h => Sat.some h
theorem lsteady_up {len : Nat} (hl : len <= 1000) : ∀ (nn k : Nat) (s : Int) (l0 : List Int),k <= len -> l0.length = len -> len - k < nn -> Sat (Rc.lsteady.loop6 N nn (len : Int) s (k : Int) l0) fun r => r.2.length = len
 | 0,k,s,l0,_,_,h => by omega
 | nn + 1,k,s,l0,hk,h0,h => by
  unfold Rc.lsteady.loop6
  simp only [br_dec,chkI_same,chkL_same]
  by_cases c : k < len
  ·rw [if_pos (by omega),chk_pos (by omega),chk_pos (by omega),chk_pos (by rw [List.length_set]; omega),i64 (x:=(k : Int) + 1) (by omega) (by omega)]
   exact lsteady_up hl nn (k + 1) _ _ (by omega) (by rw [List.length_set]; exact h0) (by omega)
  ·rw [if_neg (by omega)]; exact Sat.some h0
theorem lsteady_down {len : Nat} (hl : len <= 1000) : ∀ (nn k : Nat) (s : Int) (l0 : List Int),k <= len -> l0.length = len -> k < nn -> Sat (Rc.lsteady.loop13 N nn s ((k : Int) - 1) l0) fun r => r.2.length = len
 | 0,k,s,l0,_,_,h => by omega
 | nn + 1,0,s,l0,hk,h0,h => by
  unfold Rc.lsteady.loop13
  simp only [br_dec]
  rw [if_neg (by omega)]; exact Sat.some h0
 | nn + 1,k + 1,s,l0,hk,h0,h => by
  unfold Rc.lsteady.loop13
  simp only [br_dec]
  rw [show ((k + 1 : Nat) : Int) - 1 = (k : Int) by omega,if_pos (by omega),chk_pos (by omega),chk_pos (by omega),chk_pos (by rw [List.length_set]; omega),i64 (x:=(k : Int) - 1) (by omega) (by omega)]
  exact lsteady_down hl nn k _ _ (by omega) (by rw [List.length_set]; exact h0) (by omega)
theorem lsteady_T (hN : 30000 <= N) {l : List Int} (hl : l.length <= 64) : Sat (Rc.lsteady.F N l) fun r => r.length = l.length := by
 unfold Rc.lsteady.F
 simp only [br_dec]
 rw [if_neg (by omega)]
 refine Sat.obind (lclamped_T hN (by omega)) fun r0 h0 => ?_
 refine Sat.obind (lsteady_up (len:=r0.length) (by omega) N 0 0 r0 (Nat.zero_le _) rfl (by omega)) fun r1 h1 => ?_
 rw [h1,i64 (x:=(r0.length : Int) - 1) (by omega) (by omega)]
 exact Sat.obind (lsteady_down (len:=r0.length) (by omega) N r0.length _ r1.2 (Nat.le_refl _) h1 (by omega)) fun r2 h2 => Sat.some (h2.trans h0.1)
noncomputable def lsfLens (N : Nat) (o : Int) : List (Option Nat) := (List.range 16).map fun (i : Nat) => obind (Rc.tlsf.F N o (i : Int)) fun l => some l.length
theorem lsf10 (N : Nat) : lsfLens (N + 1000) 10 = List.replicate 16 (some 10) := by kernel_rfl
theorem lsf16 (N : Nat) : lsfLens (N + 1000) 16 = List.replicate 16 (some 16) := by kernel_rfl
theorem tlsf_T (hN : 30000 <= N) {rate one : Int} (hr : rate = 8000 \/ rate = 16000) (h0 : 0 <= one) (h1 : one <= 15) : Sat (Rc.tlsf.F N (ord14 rate : Int) one) fun r => r.length = ord14 rate := by
 obtain ⟨i,rfl⟩ : ∃ i : Nat,one = (i : Int) := ⟨one.toNat,by omega⟩
 obtain ⟨K,rfl⟩ : ∃ K,N = K + 1000 := ⟨N - 1000,by omega⟩
 have key : ∀ (o : Int) (n : Nat),lsfLens (K + 1000) o = List.replicate 16 (some n) -> Sat (Rc.tlsf.F (K + 1000) o (i : Int)) fun r => r.length = n := by
  intro o n h
  have e := congrArg (fun l => l[i]?) h
  simp only [lsfLens,List.getElem?_map,List.getElem?_range (show i < 16 by omega),Option.map_some,List.getElem?_replicate] at e
  rw [if_pos (by omega)] at e
  cases hx : Rc.tlsf.F (K + 1000) o (i : Int) with
  | none => rw [hx] at e; simp [Eng.obind] at e
  | some r => rw [hx,obind_of] at e; exact ⟨r,rfl,by simpa using e⟩
 rcases hr with rfl | rfl
 ·exact key _ _ (lsf10 K)
 ·exact key _ _ (lsf16 K)
theorem ldecode_loop {order : Int} {u : Int} (hu : Rc.lunit.F N order = some u) {one : Int} {two : List Int} {len : Nat} (h2 : two.length = len) (hl : len <= 1000) : ∀ (nn k : Nat) (l1 : List Int),k <= len -> l1.length = len -> len - k < nn -> Sat (Rc.ldecode.loop5 N nn order (len : Int) one two (k : Int) l1) fun r => r.length = len
 | 0,k,l0,_,_,h => by omega
 | nn + 1,k,l0,hk,h0,h => by
  unfold Rc.ldecode.loop5
  simp only [br_dec,chkI_same,chkL_same,chkN_same]
  by_cases c : k < len
  ·rw [if_pos (by omega),chk_pos (by omega),hu,obind_of,chk_pos (by omega),chk_pos (by omega),chk_pos (by omega),i64 (x:=(k : Int) + 1) (by omega) (by omega)]
   exact ldecode_loop hu h2 hl nn (k + 1) _ (by omega) (by rw [List.length_set]; exact h0) (by omega)
  ·rw [if_neg (by omega)]; exact Sat.some h0
theorem lgood_F {rate one : Int} {two : List Int} (hr : rate = 8000 \/ rate = 16000) (h0 : 0 <= one) (h1 : one <= 15) (h2 : two.length = ord14 rate) (h3 : ∀ x ∈ two,-4 <= x /\ x <= 4) (hN : 30000 <= N) : Rc.lgood.F N (ord14 rate : Int) one two = some true := by
 have ho := ord14_le rate
 have hu : ∃ u : Int,Rc.lunit.F N (ord14 rate : Int) = some u /\ u ≠ 0 := by
  rcases hr with rfl | rfl
  ·exact ⟨400,rfl,by decide⟩
  ·exact ⟨250,rfl,by decide⟩
 obtain ⟨u,hu1,hu2⟩ := hu
 unfold Rc.lgood.F
 simp only [br_dec,br_bne,br_beq]
 have := lgood_loop (N:=N) (e0:=(ord14 rate : Int)) (e1:=one) (e2:=two) (l:=two) (by omega) false N 0 (by omega) (by omega)
 rw [show ((0 : Nat) : Int) = 0 from rfl,List.drop_zero] at this
 rw [hu1,obind_of,if_neg hu2,if_neg (by omega),if_neg (by omega),if_pos (by omega),this,if_pos h3,osum_inl]
theorem ldecode_T (hN : 30000 <= N) {rate one : Int} {two : List Int} (hr : rate = 8000 \/ rate = 16000) (h0 : 0 <= one) (h1 : one <= 15) (h2 : two.length = ord14 rate) (h3 : ∀ x ∈ two,-4 <= x /\ x <= 4) :
  Sat (Rc.ldecode.F N (ord14 rate : Int) one two) fun r => r.2.length = ord14 rate := by
 have ho := ord14_le rate
 have hu : ∃ u : Int,Rc.lunit.F N (ord14 rate : Int) = some u := by
  rcases hr with rfl | rfl
  ·exact ⟨400,rfl⟩
  ·exact ⟨250,rfl⟩
 obtain ⟨u,hu⟩ := hu
 unfold Rc.ldecode.F
 rw [lgood_F hr h0 h1 h2 h3 hN,obind_of,br_not,if_pos rfl]
 refine Sat.obind (tlsf_T hN hr h0 h1) fun r1 e1 => ?_
 rw [e1]
 refine Sat.obind (ldecode_loop hu h2 (by omega) N 0 r1 (Nat.zero_le _) e1 (by omega)) fun r2 e2 => ?_
 exact Sat.obind (lsteady_T hN (by omega)) fun r3 e3 => Sat.some (e3.trans e2)
theorem lbetween_loop {w : Int} {l1 : List Int} {len : Nat} (h1 : l1.length = len) (hl : len <= 1000) : ∀ (nn k : Nat) (l0 : List Int),k <= len -> l0.length = len -> len - k < nn -> Sat (Rc.lbetween.loop5 N nn w (len : Int) l1 (k : Int) l0) fun r => r.length = len
 | 0,k,l0,_,_,h => by omega
 | nn + 1,k,l0,hk,h0,h => by
  unfold Rc.lbetween.loop5
  simp only [br_dec,chkI_same,chkL_same,chkN_same]
  by_cases c : k < len
  ·rw [if_pos (by omega),chk_pos (by omega),chk_pos (by omega),chk_pos (by omega),chk_pos (by omega),i64 (x:=(k : Int) + 1) (by omega) (by omega)]
   exact lbetween_loop h1 hl nn (k + 1) _ (by omega) (by rw [List.length_set]; exact h0) (by omega)
  ·rw [if_neg (by omega)]; exact Sat.some h0
theorem lbetween_T (hN : 30000 <= N) {w : Int} {a b : List Int} (hab : a.length = b.length) (ha : a.length <= 64) (w0 : 0 <= w) (w1 : w <= 4) : Sat (Rc.lbetween.F N w a b) fun r => r.2.length = a.length := by
 unfold Rc.lbetween.F
 simp only [br_dec,br_bne]
 rw [if_pos (by omega),if_neg (by omega),if_neg (by omega),if_neg (by omega)]
 refine Sat.obind (lclamped_T hN (by omega)) fun r0 h0 => ?_
 refine Sat.obind (lclamped_T hN (by omega)) fun r1 h1 => ?_
 exact Sat.obind (lbetween_loop (len:=r0.length) (by omega) (by omega) N 0 r0 (Nat.zero_le _) rfl (by omega)) fun r2 h2 => Sat.some (h2.trans h0.1)
end
end Go.Pl
/-
 Layer 14: a filter out of frequencies: that it comes to an end, and how great its numbers are.
 Conditions: none.
-/
namespace Go.Pl
open Go.Eng Go.Proofs
section
variable {N : Nat}
theorem lpoly_in {y : List Int} {k len : Nat} (hk : k < y.length) (hy : y.length + 1 = len) (hl : len <= 1000) : ∀ (nn j : Nat) (l0 : List Int),j <= k -> l0.length = len -> j < nn -> Sat (Rc.lpoly.loop8 N nn (k : Int) y (j : Int) l0) fun r => r.length = len
 | 0,j,l0,_,_,h => by omega
 | nn + 1,j,l0,hj,h0,h => by
  unfold Rc.lpoly.loop8
  simp only [br_dec,chkI_same,chkL_same,chkN_same]
  by_cases c : 2 <= j
  ·rw [if_pos (by omega),i64 (x:=(j : Int) - 2) (by omega) (by omega),i64 (x:=(j : Int) - 1) (by omega) (by omega),chk_pos (by omega),chk_pos (by omega),chk_pos (by omega),chk_pos (by omega)]
   refine Sat.obind (fmul_T (s:=16) _ _ (by omega) (by omega)) fun r _ => ?_
   rw [chk_pos (by omega),chk_pos (by omega),chk_pos (by omega),show (j : Int) - 1 = ((j - 1 : Nat) : Int) by omega]
   exact lpoly_in hk hy hl nn (j - 1) _ (by omega) (by rw [List.length_set]; exact h0) (by omega)
  ·rw [if_neg (by omega)]; exact Sat.some h0
theorem lpoly_out (hN : 30000 <= N) {y : List Int} {len : Nat} (hy : y.length + 1 = len) (hl : len <= 1000) : ∀ (nn k : Nat) (l0 : List Int),1 <= k -> k <= y.length -> l0.length = len -> y.length - k < nn -> Sat (Rc.lpoly.loop4 N nn y (k : Int) l0) fun r => r.length = len
 | 0,k,l0,_,_,_,h => by omega
 | nn + 1,k,l0,k1,hk,h0,h => by
  unfold Rc.lpoly.loop4
  simp only [br_dec,chkI_same,chkL_same,chkN_same]
  by_cases c : k < y.length
  ·rw [if_pos (by omega),i64 (x:=(k : Int) - 1) (by omega) (by omega),i64 (x:=(k : Int) + 1) (by omega) (by omega),chk_pos (by omega),chk_pos (by omega),chk_pos (by omega)]
   refine Sat.obind (fmul_T (s:=16) _ _ (by omega) (by omega)) fun r _ => ?_
   rw [chk_pos (by omega),chk_pos (by omega)]
   refine Sat.obind (lpoly_in (k:=k) c hy hl N k _ (Nat.le_refl _) (by rw [List.length_set]; exact h0) (by omega)) fun r1 h1 => ?_
   rw [chk_pos (by omega),chk_pos (by omega),chk_pos (by omega)]
   exact lpoly_out hN hy hl nn (k + 1) _ (by omega) (by omega) (by rw [List.length_set]; exact h1) (by omega)
  ·rw [if_neg (by omega)]; exact Sat.some h0
theorem lpoly_T (hN : 30000 <= N) {y : List Int} (h0 : 1 <= y.length) (h1 : y.length <= 100) : Sat (Rc.lpoly.F N y) fun r => r.length = y.length + 1 := by
 unfold Rc.lpoly.F
 rw [i64 (x:=(y.length : Int) + 1) (by omega) (by omega),chk_pos (by omega),chk_pos (by omega),show ((y.length : Int) + 1).toNat = y.length + 1 by omega,chk_pos (by rw [List.length_replicate]; omega),chk_pos (by rw [List.length_set,List.length_replicate]; omega)]
 exact Sat.obind (lpoly_out hN (len:=y.length + 1) rfl (by omega) N 1 _ (Nat.le_refl _) h0 (by rw [List.length_set,List.length_set,List.length_replicate]) (by omega)) fun r h => Sat.some h
theorem lfrom_split (hN : 30000 <= N) {l : List Int} (hl : l.length <= 1000) : ∀ (nn k : Nat) (e o : List Int),k <= l.length -> e.length = (k + 1) / 2 -> o.length = k / 2 -> l.length - k < nn -> Sat (Rc.lfrom.loop5 N nn (l.length : Int) l (k : Int) e o) fun r => r.1.length = (l.length + 1) / 2 /\ r.2.length = l.length / 2
 | 0,k,e,o,_,_,_,h => by omega
 | nn + 1,k,e,o,hk,he,ho,h => by
  unfold Rc.lfrom.loop5
  simp only [br_dec,br_beq,chkI_same,chkL_same,chkN_same]
  by_cases c : k < l.length
  ·rw [if_pos (by omega),chk_pos (by omega),clamp_F (by omega),obind_of]
   refine Sat.obind (fcos_T hN _) fun r _ => ?_
   rw [tmod_emod (by omega),i64 (x:=(k : Int) + 1) (by omega) (by omega)]
   by_cases d : k % 2 = 0
   ·rw [if_pos (by omega),chk_pos (by simp; omega)]
    exact lfrom_split hN hl nn (k + 1) _ _ (by omega) (by simp; omega) (by omega) (by omega)
   ·rw [if_neg (by omega),chk_pos (by simp; omega)]
    exact lfrom_split hN hl nn (k + 1) _ _ (by omega) (by omega) (by simp; omega) (by omega)
  ·have hkl : k = l.length := by omega
   rw [if_neg (by omega),<- hkl]; exact Sat.some ⟨he,ho⟩
theorem lfrom_join {p q : List Int} {h n : Nat} (hp : p.length = h + 1) (hq : q.length = h + 1) (hn : n = 2 * h) (hl : n <= 1000) : ∀ (nn k : Nat) (l : List Int),k <= h -> l.length = n -> h - k < nn -> Sat (Rc.lfrom.loop15 N nn (h : Int) p q (k : Int) l) fun r => r.length = n
 | 0,k,l,_,_,h => by omega
 | nn + 1,k,l,hk,h0,h' => by
  unfold Rc.lfrom.loop15
  simp only [br_dec,chkI_same,chkL_same,chkN_same]
  by_cases c : k < h
  ·rw [if_pos (by omega),i64 (x:=(k : Int) + 1) (by omega) (by omega),chk_pos (by omega),chk_pos (by omega),chk_pos (by omega),chk_pos (by omega)]
   refine Sat.obind (fmul_T (s:=5) _ _ (by omega) (by omega)) fun r _ => ?_
   rw [chk_pos (by omega)]
   refine Sat.obind (fmul_T (s:=5) _ _ (by omega) (by omega)) fun r1 _ => ?_
   simp only [List.length_set,h0]
   rw [i64 (x:=(n : Int) - 1) (by omega) (by omega),i64 (x:=(n : Int) - 1 - k) (by omega) (by omega),chk_pos (by omega)]
   exact lfrom_join hp hq hn hl nn (k + 1) _ (by omega) (by rw [List.length_set,List.length_set]; exact h0) (by omega)
  ·rw [if_neg (by omega)]; exact Sat.some h0
theorem lstable_in {m n len : Nat} {r8 r7 : Int} {old : List Int} (ho : old.length = m) (hm : m <= len) (hl : len <= 1000) : ∀ (nn k : Nat) (l0 : List Int),k <= m -> l0.length = len -> m - k < nn -> Sat (Rc.lstable.loop18 N nn (m : Int) r7 r8 (m : Int) old (k : Int) l0) fun r => r.length = len
 | 0,k,l0,_,_,h => by omega
 | nn + 1,k,l0,hk,h0,h => by
  unfold Rc.lstable.loop18
  simp only [br_dec,chkI_same,chkL_same,chkN_same]
  by_cases c : k < m
  ·rw [if_pos (by omega),i64 (x:=(m : Int) - 1) (by omega) (by omega),i64 (x:=(m : Int) - 1 - k) (by omega) (by omega),chk_pos (by omega),chk_pos (by omega)]
   refine Sat.obind (fmul_T (s:=24) _ _ (by omega) (by omega)) fun r _ => ?_
   rw [chk_pos (by omega)]
   refine Sat.obind (fdiv_T (s:=24) _ _ (by omega)) fun r1 _ => ?_
   rw [clamp_F (by omega),obind_of,chk_pos (by omega),i64 (x:=(k : Int) + 1) (by omega) (by omega)]
   exact lstable_in (n:=n) ho hm hl nn (k + 1) _ (by omega) (by rw [List.length_set]; exact h0) (by omega)
  ·rw [if_neg (by omega)]; exact Sat.some h0
theorem lstable_out (hN : 30000 <= N) {a : List Int} {s : Bool} {len : Nat} (hl : len <= 1000) : ∀ (nn k : Nat) (l0 : List Int),k <= len -> l0.length = len -> k < nn -> Sat (Rc.lstable.loop10 N nn a ((k : Int) - 1) s l0) fun _ => True
 | 0,k,l0,_,_,h => by omega
 | nn + 1,0,l0,hk,h0,h => by
  unfold Rc.lstable.loop10
  simp only [br_dec]
  rw [if_neg (by omega)]; exact Sat.some trivial
 | nn + 1,k + 1,l0,hk,h0,h => by
  unfold Rc.lstable.loop10
  simp only [br_dec]
  rw [show ((k + 1 : Nat) : Int) - 1 = (k : Int) by omega,if_pos (by omega),chk_pos (by omega)]
  split
  ·exact ⟨_,rfl,trivial⟩
  split
  ·exact ⟨_,rfl,trivial⟩
  refine Sat.obind (fmul_T (s:=24) _ _ (by omega) (by omega)) fun r _ => ?_
  simp only [Int.toNat_natCast,List.nil_append,List.drop_zero,Nat.sub_zero]
  rw [chk_pos (by omega),chk_pos (by rw [List.length_take]; omega)]
  refine Sat.obind (lstable_in (n:=0) (m:=k) (len:=len) (by rw [List.length_take]; omega) (by omega) hl N 0 l0 (Nat.zero_le _) h0 (by omega)) fun r1 h1 => ?_
  rw [i64 (x:=(k : Int) - 1) (by omega) (by omega)]
  exact lstable_out hN hl nn k r1 (by omega) h1 (by omega)
theorem lstable_T (hN : 30000 <= N) {a : List Int} (ha : a.length <= 32) : Sat (Rc.lstable.F N a) fun _ => True := by
 unfold Rc.lstable.F
 simp only [br_dec]
 rw [if_neg (by omega),chk_pos (by omega),Int.toNat_natCast]
 refine Sat.obind (lstable_loop5_T (N:=N) (l:=a) (by omega) N 0 (List.replicate a.length 0) (Nat.zero_le _) (by simp) (by omega) (fun x hx => by simp at hx)) fun r0 h0 => ?_
 rw [i64 (x:=(r0.length : Int) - 1) (by omega) (by omega)]
 obtain ⟨v,h1,_⟩ := lstable_out (N:=N) (a:=a) (s:=false) hN (len:=r0.length) (by omega) N r0.length r0 (Nat.le_refl _) rfl (by omega)
 rw [h1]
 cases v with
 | inl x => exact ⟨_,rfl,trivial⟩
 | inr x => exact ⟨_,rfl,trivial⟩
theorem lchirp_pow {c : Int} (hc : 0 <= c /\ c <= 65536) {M : Int} (hM : 0 <= M /\ M <= 131072) {n : Nat} (hn : n <= 1000) : ∀ (nn k : Nat) (v : Int),k <= n -> -M <= v /\ v <= M -> n - k < nn -> Sat (Rc.lchirp.loop9 N nn c (n : Int) v (k : Int)) fun r => -M <= r /\ r <= M
 | 0,k,v,_,_,h => by omega
 | nn + 1,k,v,hk,hv,h => by
  unfold Rc.lchirp.loop9
  simp only [br_dec,chkI_same]
  by_cases d : k < n
  ·have e : Rc.fmul.F N v c 16 = some (ml v c 16) := fmul_F (s:=16) (by omega) (by omega) v c
   rw [if_pos (by omega),e,obind_of,i64 (x:=(k : Int) + 1) (by omega) (by omega)]
   exact lchirp_pow hc hM hn nn (k + 1) _ (by omega) (ml_part hM hv hc) (by omega)
  ·rw [if_neg (by omega)]; exact Sat.some hv
theorem lchirp_loop (hN : 30000 <= N) {c : Int} (hc : 0 <= c /\ c <= 65536) {M : Int} (hM : 0 <= M /\ M <= 131072) {l : List Int} (hl : l.length <= 100) (hx : ∀ x ∈ l,-M <= x /\ x <= M) : ∀ (nn k : Nat) (l0 : List Int),k <= l.length -> l0.length = l.length -> l.length - k < nn -> (∀ x ∈ l0.take k,-M <= x /\ x <= M) ->
  Sat (Rc.lchirp.loop6 N nn c (l.length : Int) l (k : Int) l0) fun r => r.length = l.length /\ ∀ x ∈ r,-M <= x /\ x <= M
 | 0,k,l0,_,_,h,_ => by omega
 | nn + 1,k,l0,hk,h0,h,hy => by
  unfold Rc.lchirp.loop6
  simp only [br_dec,chkI_same,chkL_same]
  by_cases d : k < l.length
  ·have hv : -M <= l.getD k 0 /\ l.getD k 0 <= M := by
    rw [List.getD_eq_getElem?_getD,List.getElem?_eq_getElem d]
    exact hx _ (List.getElem_mem d)
   rw [if_pos (by omega),chk_pos (by omega),i64 (x:=(k : Int) + 1) (by omega) (by omega),Int.toNat_natCast]
   refine Sat.obind (lchirp_pow (n:=k + 1) hc hM (by omega) N 0 _ (Nat.zero_le _) hv (by omega)) fun r hr => ?_
   rw [chk_pos (by omega)]
   refine lchirp_loop hN hc hM hl hx nn (k + 1) _ (by omega) (by simpa using h0) (by omega) fun x hx' => ?_
   rw [List.take_add_one,List.take_set_of_le (by omega),List.getElem?_set_self (by omega)] at hx'
   rcases List.mem_append.1 hx' with h1 | h1
   ·exact hy x h1
   ·simp only [Option.toList_some,List.mem_singleton] at h1
    rw [h1]; exact hr
  ·rw [if_neg (by omega)]
   exact Sat.some ⟨h0,fun x hx' => hy x (by rwa [List.take_of_length_le (by omega)])⟩
theorem lchirp_T (hN : 30000 <= N) (c : Int) {M : Int} (hM : 0 <= M /\ M <= 131072) {l : List Int} (hl : l.length <= 32) (hx : ∀ x ∈ l,-M <= x /\ x <= M) : Sat (Rc.lchirp.F N c l) fun r => r.length = l.length /\ ∀ x ∈ r,-M <= x /\ x <= M := by
 unfold Rc.lchirp.F
 simp only [br_dec]
 rw [if_neg (by omega),clamp_F (by omega),obind_of,chk_pos (by omega),Int.toNat_natCast]
 exact Sat.obind (lchirp_loop hN (clp_range (by omega) c) hM (by omega) hx N 0 (List.replicate l.length 0) (Nat.zero_le _) (by simp) (by omega) (fun x hx => by simp at hx)) fun r h => Sat.some h
theorem lfit_loop (hN : 30000 <= N) {len : Nat} (hl : len <= 32) : ∀ (nn k : Nat) (l0 : List Int),k <= 17 -> l0.length = len -> (∀ x ∈ l0,-131072 <= x /\ x <= 131072) -> 17 - k < nn -> Sat (Rc.lfit.loop10 N nn (k : Int) l0) fun r => r.length = len /\ ∀ x ∈ r,-131072 <= x /\ x <= 131072
 | 0,k,l0,_,_,_,h => by omega
 | nn + 1,k,l0,hk,h0,hx,h => by
  unfold Rc.lfit.loop10
  simp only [br_dec]
  by_cases d : k <= 16
  ·rw [if_pos (by omega)]
   refine Sat.obind (lstable_T hN (by omega)) fun r _ => ?_
   refine Sat.br (fun _ => ?_) fun _ => Sat.some ⟨h0,hx⟩
   refine Sat.obind (lchirp_T hN _ (M:=131072) (by omega) (by omega) hx) fun r1 h1 => ?_
   rw [i64 (x:=(k : Int) + 1) (by omega) (by omega)]
   exact lfit_loop hN hl nn (k + 1) r1 (by omega) (h1.1.trans h0) h1.2 (by omega)
  ·rw [if_neg (by omega)]; exact Sat.some ⟨h0,hx⟩
theorem lfit_T (hN : 30000 <= N) {a : List Int} (ha : a.length <= 32) : Sat (Rc.lfit.F N a) fun r => r.length = a.length /\ ∀ x ∈ r,-131072 <= x /\ x <= 131072 := by
 unfold Rc.lfit.F
 simp only [br_dec]
 rw [if_neg (by omega),chk_pos (by omega),Int.toNat_natCast]
 refine Sat.obind (lfit_loop5_T (N:=N) (l:=a) (by omega) N 0 (List.replicate a.length 0) (Nat.zero_le _) (by simp) (by omega) (fun x hx => by simp at hx)) fun r0 h0 => ?_
 refine Sat.obind (lfit_loop hN (len:=a.length) ha N 1 r0 (by omega) h0.1 h0.2 (by omega)) fun r1 h1 => ?_
 refine Sat.obind (lstable_T hN (by omega)) fun r2 _ => ?_
 refine Sat.br (fun _ => Sat.some ⟨by rw [List.length_replicate]; exact h1.1,fun x hx => ?_⟩) fun _ => Sat.some h1
 rw [List.eq_of_mem_replicate hx]; omega
theorem lfrom_T (hN : 30000 <= N) {l : List Int} (hl : l.length = 10 \/ l.length = 16) : Sat (Rc.lfrom.F N l) fun r => r.2.length = l.length /\ ∀ x ∈ r.2,-131072 <= x /\ x <= 131072 := by
 have main : Sat (obind (Rc.lfrom.loop5 N N (l.length : Int) l 0 [] []) fun r0 => obind (Rc.lpoly.F N r0.1) fun r1 => obind (Rc.lpoly.F N r0.2) fun r2 => chk (0 <= (l.length : Int) /\ (l.length : Int) <= (l.length : Int) /\ (l.length : Int) <= ((17592186043904 : Nat) : Int))
   (obind (Rc.lfrom.loop15 N N (r0.1.length : Int) r1 r2 0 (List.replicate (l.length : Int).toNat 0)) fun r3 => obind (Rc.lfit.F N r3) fun r4 => some ((0 : Int),r4))) fun r => r.2.length = l.length /\ ∀ x ∈ r.2,-131072 <= x /\ x <= 131072 := by
  refine Sat.obind (lfrom_split hN (by omega) N 0 [] [] (Nat.zero_le _) rfl rfl (by omega)) fun r0 h0 => ?_
  refine Sat.obind (lpoly_T hN (by omega) (by omega)) fun r1 h1 => ?_
  refine Sat.obind (lpoly_T hN (by omega) (by omega)) fun r2 h2 => ?_
  rw [chk_pos (by omega),Int.toNat_natCast]
  refine Sat.obind (lfrom_join (h:=r0.1.length) (n:=l.length) h1 (by omega) (by omega) (by omega) N 0 (List.replicate l.length 0) (Nat.zero_le _) (by simp) (by omega)) fun r3 h3 => ?_
  exact Sat.obind (lfit_T hN (by omega)) fun r4 h4 => Sat.some ⟨h4.1.trans h3,h4.2⟩
 unfold Rc.lfrom.F
 simp only [br_bne]
 by_cases c : (l.length : Int) = 10
 ·rw [if_pos c]; exact main
 ·rw [if_neg c,if_pos (by omega)]; exact main
end
end Go.Pl
/-
 Layer 14: a voice's memory, sample by sample.
 Conditions: none.
-/
namespace Go.Pl
open Go.Eng Go.Proofs
abbrev shA (v : List Int) : List Int := List.take 1 v ++ (List.take 319 (List.take 320 (List.drop 0 v)) ++ List.drop (1 + min (List.take 320 (List.drop 0 v)).length 319) v)
abbrev shB (A : List Int) : List Int := List.take 321 A ++ (List.take 31 (List.take 32 (List.drop 320 A)) ++ List.drop (321 + min (List.take 32 (List.drop 320 A)).length 31) A)
def sh14 (v : List Int) (r o : Int) : List Int := (r :: v.take 319) ++ (o :: (v.drop 320).take 31)
theorem shA_eq {v : List Int} (hv : v.length = 352) : shA v = v.take 1 ++ (v.take 319 ++ v.drop 320) := by
 unfold shA
 rw [List.drop_zero,List.take_take,List.length_take,hv]
 rfl
theorem shA_len {v : List Int} (hv : v.length = 352) : (shA v).length = 352 := by
 rw [shA_eq hv]
 simp only [List.length_append,List.length_take,List.length_drop,hv]
 rfl
theorem shB_eq {A : List Int} (hA : A.length = 352) : shB A = A.take 321 ++ (A.drop 320).take 31 := by
 unfold shB
 rw [List.take_take,List.length_take,List.length_drop,hA,show 321 + min (min 32 (352 - 320)) 31 = 352 from rfl,show List.drop 352 A = [] from List.drop_eq_nil_of_le (by omega),List.append_nil]
 rfl
theorem shB_len {A : List Int} (hA : A.length = 352) : (shB A).length = 352 := by
 rw [shB_eq hA]
 simp only [List.length_append,List.length_take,List.length_drop,hA]
 rfl
theorem sh14_len {v : List Int} (hv : v.length = 352) (r o : Int) : (sh14 v r o).length = 352 := by
 unfold sh14
 simp only [List.length_append,List.length_cons,List.length_take,List.length_drop,hv]
 rfl
theorem sh_eq {v : List Int} (hv : v.length = 352) (r o : Int) : ((shB (shA v)).set 0 r).set 320 o = sh14 v r o := by
 have hA := shA_len hv
 have hB := shB_len hA
 obtain ⟨a,X,Y,rfl,hX,hY⟩ : ∃ a X Y,v = (a :: X) ++ Y /\ X.length = 319 /\ Y.length = 32 := by
  match v,hv with
  | a :: t,hv =>
   simp only [List.length_cons] at hv
   exact ⟨a,t.take 319,t.drop 319,by rw [List.cons_append,List.take_append_drop],by rw [List.length_take]; omega,by rw [List.length_drop]; omega⟩
 have e319 : List.take 319 ((a :: X) ++ Y) = a :: X.take 318 := by
  rw [List.take_append_of_le_length (by simp [hX])]; rfl
 have e320 : List.drop 320 ((a :: X) ++ Y) = Y := by
  rw [List.drop_append_of_le_length (by simp [hX]),List.drop_eq_nil_of_le (by simp [hX])]; rfl
 have e1 : List.take 1 ((a :: X) ++ Y) = [a] := rfl
 have hAe : shA ((a :: X) ++ Y) = (a :: a :: X.take 318) ++ Y := by rw [shA_eq hv,e1,e319,e320]; rfl
 have l1 : (a :: a :: X.take 318).length = 320 := by simp [hX]
 have f320 : List.drop 320 ((a :: a :: X.take 318) ++ Y) = Y := by
  rw [List.drop_append_of_le_length (by omega),List.drop_eq_nil_of_le (by omega)]; rfl
 have f321 : List.take 321 ((a :: a :: X.take 318) ++ Y) = (a :: a :: X.take 318) ++ Y.take 1 := by
  rw [List.take_append,List.take_of_length_le (by omega),l1]
 unfold sh14
 rw [shB_eq hA,hAe,f320,f321,e319,e320,List.append_assoc]
 match Y,hY with
 | y :: Y,hY =>
  have e9 : ((a :: a :: X.take 318) ++ (List.take 1 (y :: Y) ++ List.take 31 (y :: Y))).set 0 r = (r :: a :: X.take 318) ++ (y :: (y :: Y).take 31) := rfl
  rw [e9,List.set_append,if_neg (by simp [hX])]
  have : 320 - (r :: a :: X.take 318).length = 0 := by simp [hX]
  rw [this]
  rfl
section
variable {N : Nat}
theorem sykept_F (v : Int) : Rc.sykept.F N v = some (clp (-16777216) 16777216 v) := by
 unfold Rc.sykept.F
 rw [clamp_F (by omega),obind_of]
theorem within1_F {v most : Int} (m0 : 0 <= most) (m1 : most <= 1000000) : Rc.within1.F N v most = some (decide (v < -most \/ v > most)) := by
 unfold Rc.within1.F
 simp only [br_dec,chkI_same]
 rw [i64 (x:=0 - most) (by omega) (by omega)]
 by_cases h : v < 0 - most
 ·rw [if_pos h,decide_eq_true (Or.inl (by omega))]
 ·rw [if_neg h]
  congr 1
  by_cases h2 : v > most
  ·rw [decide_eq_true h2,decide_eq_true (Or.inr h2)]
  ·rw [decide_eq_false h2,decide_eq_false (by omega)]
theorem indexf64_loop {em most : Int} {el l : List Int} (m0 : 0 <= most) (m1 : most <= 1000000) (hl : l.length <= 1000000) (hx : ∀ x ∈ l,-most <= x /\ x <= most) (s : Int) : ∀ (nn k : Nat),k <= l.length -> l.length - k < nn -> Rc.indexf64.loop2 N nn em el (l.length : Int) most l s (k : Int) = some (.inl s)
 | 0,k,_,h => by omega
 | nn + 1,k,hk,h => by
  unfold Rc.indexf64.loop2
  simp only [br_dec,chkI_same,chkL_same]
  by_cases c : k < l.length
  ·have hv := hx (l.getD k 0) (by rw [List.getD_eq_getElem?_getD,List.getElem?_eq_getElem c]; exact List.getElem_mem c)
   rw [if_pos (by omega),chk_pos (by omega),within1_F m0 m1,obind_of,Int.toNat_natCast,decide_eq_false (by omega),br_false,i64 (x:=(k : Int) + 1) (by omega) (by omega)]
   exact indexf64_loop m0 m1 hl hx s nn (k + 1) (by omega) (by omega)
  ·rw [if_neg (by omega)]
theorem within_F {most : Int} {l : List Int} (m0 : 0 <= most) (m1 : most <= 1000000) (hl : l.length <= 1000) (hN : 30000 <= N) (hx : ∀ x ∈ l,-most <= x /\ x <= most) : Rc.within.F N most l = some true := by
 unfold Rc.within.F Rc.contains64.F Rc.indexf64.F
 have := indexf64_loop (N:=N) (em:=most) (el:=l) m0 m1 (by omega) hx 0 N 0 (Nat.zero_le _) (by omega)
 rw [show ((0 : Nat) : Int) = 0 from rfl] at this
 rw [this]
 rfl
structure GoodP (loud lag t0 t1 t2 t3 t4 : Int) (pulses filter : List Int) : Prop where
 n0 : 1 <= pulses.length
 n1 : pulses.length <= 480
 p : ∀ x ∈ pulses,-16 <= x /\ x <= 16
 l0 : 0 <= loud
 l1 : loud <= 262144
 lag : lag = 0 \/ 3 <= lag /\ lag <= 318
 t0 : -128 <= t0 /\ t0 <= 128
 t1 : -128 <= t1 /\ t1 <= 128
 t2 : -128 <= t2 /\ t2 <= 128
 t3 : -128 <= t3 /\ t3 <= 128
 t4 : -128 <= t4 /\ t4 <= 128
 f : filter.length <= 32
 fx : ∀ x ∈ filter,-131072 <= x /\ x <= 131072
theorem sygood_F (hN : 30000 <= N) {loud lag t0 t1 t2 t3 t4 : Int} {pulses filter : List Int} (h : GoodP loud lag t0 t1 t2 t3 t4 pulses filter) : Rc.sygood.F N loud lag t0 t1 t2 t3 t4 pulses filter = some true := by
 have w : ∀ {t : Int},-128 <= t /\ t <= 128 -> Rc.within1.F N t 128 = some false := fun {t} ht => by rw [within1_F (by omega) (by omega),decide_eq_false (by omega)]
 have h0 := h.n0
 have h1 := h.n1
 have hl0 := h.l0
 have hl1 := h.l1
 have hf := h.f
 unfold Rc.sygood.F
 simp only [br_dec,br_beq]
 rw [if_neg (by omega),if_neg (by omega),within_F (by omega) (by omega) (by omega) hN h.p,obind_of,br_not,if_pos rfl,if_neg (by omega),if_neg (by omega)]
 simp only [w h.t0,w h.t1,w h.t2,w h.t3,w h.t4,obind_of,br_false]
 have fin : (if (filter.length : Int) <= 32 then obind (Rc.within.F N 131072 filter) fun r12 => some r12 else some false) = some true := by
  rw [if_pos (by omega),within_F (by omega) (by omega) (by omega) hN h.fx,obind_of]
 rcases h.lag with rfl | ⟨a,b⟩
 ·rw [if_pos rfl]; exact fin
 ·rw [if_neg (by omega),if_pos (by omega),if_pos (by omega)]; exact fin
end
end Go.Pl
/-
 Layer 14: a part is played: what it comes to.
 Conditions: none.
-/
namespace Go.Pl
open Go.Eng Go.Proofs
def tap14 (ts v : List Int) (lag : Int) : Nat -> Nat -> Int -> Int
 | 0,_,acc => acc
 | n + 1,j,acc => tap14 ts v lag n (j + 1) (IntKind.i64.wrap (acc + ml (ts.getD j 0) (v.getD (lag - 3 + j).toNat 0) 7))
def fil14 (a v : List Int) : Nat -> Nat -> Int -> Int
 | 0,_,acc => acc
 | n + 1,k,acc => fil14 a v n (k + 1) (IntKind.i64.wrap (acc + ml (a.getD k 0) (v.getD (320 + k) 0) 12))
def kp (v : Int) : Int := clp (-16777216) 16777216 v
def drv14 (loud lag : Int) (ts : List Int) (n : Int) (v : List Int) : Int :=
 kp (if lag > 0 then tap14 ts v lag 5 0 (IntKind.i64.wrap (n * loud)) else IntKind.i64.wrap (n * loud))
def out14 (a v : List Int) (r : Int) : Int := kp (fil14 a v a.length 0 r)
def run14 (loud lag : Int) (ts a : List Int) : List Int -> List Int -> List Int -> List Int × List Int
 | [],v,o => (v,o)
 | n :: ps,v,o => run14 loud lag ts a ps (sh14 v (drv14 loud lag ts n v) (out14 a v (drv14 loud lag ts n v))) (o ++ [out14 a v (drv14 loud lag ts n v)])
theorem run14_len (loud lag : Int) (ts a : List Int) : ∀ (ps v o : List Int),v.length = 352 -> (run14 loud lag ts a ps v o).1.length = 352 /\ (run14 loud lag ts a ps v o).2.length = o.length + ps.length
 | [],v,o,h => ⟨h,rfl⟩
 | n :: ps,v,o,h => by
  obtain ⟨h1,h2⟩ := run14_len loud lag ts a ps (sh14 v (drv14 loud lag ts n v) (out14 a v (drv14 loud lag ts n v))) (o ++ [out14 a v (drv14 loud lag ts n v)]) (sh14_len h _ _)
  exact ⟨h1,by simp only [run14]; rw [h2]; simp; omega⟩
section
variable {N : Nat}
theorem tap_loop {t0 t1 t2 t3 t4 loud lag : Int} {v pulses filter : List Int} (hv : v.length = 352) (g0 : 3 <= lag) (g1 : lag <= 318) : ∀ (nn n j : Nat) (acc : Int),j + n = 5 -> n < nn ->
  Rc.syrun.loop10 N nn t0 t1 t2 t3 t4 loud lag t0 t1 t2 t3 t4 v pulses filter acc (j : Int) = some (tap14 [t0,t1,t2,t3,t4] v lag n j acc)
 | 0,n,j,acc,_,h => by omega
 | nn + 1,0,j,acc,hj,_ => by
  unfold Rc.syrun.loop10
  simp only [br_dec,chkI_same,chkL_same]
  rw [if_neg (by omega)]
  rfl
 | nn + 1,n + 1,j,acc,hj,h => by
  unfold Rc.syrun.loop10
  simp only [br_dec,chkI_same,chkL_same]
  rw [if_pos (by omega),chk_pos (by omega),i64 (x:=lag - 3) (by omega) (by omega),i64 (x:=lag - 3 + j) (by omega) (by omega),chk_pos (by omega)]
  have e : ∀ x y,Rc.fmul.F N x y 7 = some (ml x y 7) := fun x y => fmul_F (s:=7) (by omega) (by omega) x y
  rw [e,obind_of,i64 (x:=(j : Int) + 1) (by omega) (by omega),Int.toNat_natCast,Nat.zero_add]
  exact tap_loop hv g0 g1 nn n (j + 1) _ (by omega) (by omega)
theorem fil_loop {a v : List Int} (hv : v.length = 352) (ha : a.length <= 32) : ∀ (nn n k : Nat) (acc : Int),k + n = a.length -> n < nn ->
  Rc.syrun.loop17 N nn (a.length : Int) a v acc (k : Int) = some (fil14 a v n k acc)
 | 0,n,k,acc,_,h => by omega
 | nn + 1,0,k,acc,hk,_ => by
  unfold Rc.syrun.loop17
  simp only [br_dec,chkI_same,chkL_same]
  rw [if_neg (by omega)]
  rfl
 | nn + 1,n + 1,k,acc,hk,h => by
  unfold Rc.syrun.loop17
  simp only [br_dec,chkI_same,chkL_same]
  have e : ∀ x y,Rc.fmul.F N x y 12 = some (ml x y 12) := fun x y => fmul_F (s:=12) (by omega) (by omega) x y
  rw [if_pos (by omega),chk_pos (by omega),chk_pos (by omega),e,obind_of,i64 (x:=(k : Int) + 1) (by omega) (by omega),Int.toNat_natCast]
  exact fil_loop hv ha nn n (k + 1) _ (by omega) (by omega)
theorem run_loop (hN : 30000 <= N) {loud lag t0 t1 t2 t3 t4 : Int} {pulses filter : List Int} (hp : pulses.length <= 480) (hlag : lag = 0 \/ 3 <= lag /\ lag <= 318) (hf : filter.length <= 32) : ∀ (nn k : Nat) (v o : List Int),k <= pulses.length -> v.length = 352 -> o.length = k -> pulses.length - k < nn ->
  Rc.syrun.loop5 N nn (pulses.length : Int) loud lag t0 t1 t2 t3 t4 pulses pulses filter (k : Int) v o = some (run14 loud lag [t0,t1,t2,t3,t4] filter (pulses.drop k) v o)
 | 0,k,v,o,_,_,_,h => by omega
 | nn + 1,k,v,o,hk,hv,ho,h => by
  unfold Rc.syrun.loop5
  simp only [br_dec,chkI_same,chkL_same]
  by_cases c : k < pulses.length
  ·have hA := shA_len hv
   have hB := shB_len hA
   have hS := sh14_len hv
   rw [if_pos (by omega),chk_pos (by omega),drop_cons c]
   have ih := run_loop (loud:=loud) (lag:=lag) (t0:=t0) (t1:=t1) (t2:=t2) (t3:=t3) (t4:=t4) hN hp hlag hf nn (k + 1) (sh14 v (drv14 loud lag [t0,t1,t2,t3,t4] (pulses.getD k 0) v) (out14 filter v (drv14 loud lag [t0,t1,t2,t3,t4] (pulses.getD k 0) v))) (o ++ [out14 filter v (drv14 loud lag [t0,t1,t2,t3,t4] (pulses.getD k 0) v)]) (by omega) (hS _ _) (by simp; omega) (by omega)
   rw [<- sh_eq hv] at ih
   simp only [run14]
   rw [<- sh_eq hv]
   have c1 : 320 <= v.length := by omega
   have c2 : 352 <= (shA v).length := by omega
   have c3 : ((0 : Int) <= 0 /\ (0 : Int) < ((320 : Nat) : Int)) /\ 320 <= (shB (shA v)).length := by omega
   have c4 : ∀ r : Int,((0 : Int) <= 0 /\ (0 : Int) < ((32 : Nat) : Int)) /\ 352 <= ((shB (shA v)).set 0 r).length := fun r => by rw [List.length_set]; omega
   rw [Int.toNat_natCast,i64 (x:=(k : Int) + 1) (by omega) (by omega)]
   by_cases g : lag > 0
   ·have hd : drv14 loud lag [t0,t1,t2,t3,t4] (pulses.getD k 0) v = kp (tap14 [t0,t1,t2,t3,t4] v lag 5 0 (IntKind.i64.wrap (pulses.getD k 0 * loud))) := by unfold drv14; rw [if_pos g]
    rw [if_pos g]
    refine obind_step (tap_loop hv (by omega) (by omega) N 5 0 _ rfl (by omega)) ?_
    refine obind_step (sykept_F _) ?_
    refine obind_step (fil_loop hv hf N filter.length 0 _ (by omega) (by omega)) ?_
    refine obind_step (sykept_F _) ?_
    rw [hd] at ih ⊢
    rw [chk_pos c1,chk_pos c1,chk_pos c1,chk_pos c2,chk_pos c2,chk_pos c2,chk_pos c3]
    refine (chk_pos (c4 _) _).trans ?_
    rw [chk_pos (by simp; omega)]
    exact ih
   ·have hd : drv14 loud lag [t0,t1,t2,t3,t4] (pulses.getD k 0) v = kp (IntKind.i64.wrap (pulses.getD k 0 * loud)) := by unfold drv14; rw [if_neg g]
    rw [if_neg g]
    refine obind_step (sykept_F _) ?_
    refine obind_step (fil_loop hv hf N filter.length 0 _ (by omega) (by omega)) ?_
    refine obind_step (sykept_F _) ?_
    rw [hd] at ih ⊢
    rw [chk_pos c1,chk_pos c1,chk_pos c1,chk_pos c2,chk_pos c2,chk_pos c2,chk_pos c3]
    refine (chk_pos (c4 _) _).trans ?_
    rw [chk_pos (by simp; omega)]
    exact ih
  ·rw [if_neg (by omega),List.drop_eq_nil_of_le (by omega)]
   rfl
theorem syrun_F (hN : 30000 <= N) {loud lag t0 t1 t2 t3 t4 : Int} {pulses filter v : List Int} (h : GoodP loud lag t0 t1 t2 t3 t4 pulses filter) (hv : v.length = 352) :
  Rc.syrun.F N loud lag t0 t1 t2 t3 t4 pulses filter v = some (0,run14 loud lag [t0,t1,t2,t3,t4] filter pulses v []) := by
 have h0 := h.n0
 have h1 := h.n1
 unfold Rc.syrun.F
 rw [sygood_F hN h,obind_of,br_not,if_pos rfl,chk_pos (by omega)]
 refine obind_step (run_loop hN h.n1 h.lag h.f N 0 v [] (Nat.zero_le _) hv rfl (by omega)) ?_
 rw [List.drop_zero]
theorem zeros_getD (n k : Nat) : (List.replicate n (0 : Int)).getD k 0 = 0 := by
 rw [List.getD_eq_getElem?_getD,List.getElem?_replicate]
 split <;> rfl
end
end Go.Pl
