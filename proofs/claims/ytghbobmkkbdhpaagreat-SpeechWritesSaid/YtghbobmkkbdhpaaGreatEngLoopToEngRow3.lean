/-
 The engine, part eleven: loops.
 Conditions: none; nothing is claimed of the program here.
-/
import Derived.Test.YtghbobmkkbdhpaaGreatEngMemToEngReg
import Derived.LoopN
import Derived.Below
import Derived.WalkKit
import Derived.ProofKit
import Derived.OpenShut
import Derived.ShutString
import Derived.ChangeOld
import Derived.SizedLaws
import Derived.Deep.Slices
import Derived.JoinedOf
import Derived.Lib.SmallJoins
set_option linter.unusedVariables false
set_option linter.unusedSimpArgs false
namespace Go.Eng
variable {RT : RoTab} {E : Env} {F : Fr} {a : Act} {H : Heap} {fp : Fp} {w : World} {P : Program} {Y : Type} {y : Y} {C : Cfg}
def Post (C : Cfg) {Z : Type} (z : Z) (kr : KS Z) (k : Ex -> KS Z) (E : Env) (H : Heap) (fp : Fp) (w : World) (nx : Nat) (a : Act) (n : Nat) (g : Nat -> Bool) : Exit -> Act -> World -> Prop
 | .normal,a',w' => ∃ F' H' nx' E' fp',k .normal F' H' nx' = some z /\ St C.RT E' H' fp' w' F' a' nx' n /\ Trip C E H fp w nx E' H' fp' w' nx' /\ Same g a a'
 | .exit id,a',w' => ∃ F' H' nx' E' fp',k (.exit id) F' H' nx' = some z /\ St C.RT E' H' fp' w' F' a' nx' n /\ Trip C E H fp w nx E' H' fp' w' nx' /\ Same g a a'
 | .ret,a',w' => ∃ F' H' nx' E' fp',kr F' H' nx' = some z /\ St C.RT E' H' fp' w' F' a' nx' n /\ Trip C E H fp w nx E' H' fp' w' nx' /\ Same g a a'
 | _,_,_ => False
def CodeOK (C : Cfg) (K : FCfg) (inl : Inl) (c : Code) : Prop :=
 ∀ (Z : Type) (z : Z) (kr : KS Z) (k : Ex -> KS Z) (F : Fr) (H : Heap) (nx : Nat) (E : Env) (fp : Fp) (w : World) (a : Act) (n : Nat),evCode C K inl c Z kr k F H nx = some z ->
  St C.RT E H fp w F a nx n -> dstsOk n c = true -> c.wp C.P (Post C z kr k E H fp w nx a n (asg c)) a w
def AnnOK (A : Ann) : Prop := ∀ L Lc : Leaves,
 A.xslots.map (fun q => fAV (A.enc (A.dec L)) Lc q.2) = A.xslots.map (fun q => fAV L Lc q.2) /\
 A.xblks.map (fun q => fBlk (A.enc (A.dec L)) Lc q.2) = A.xblks.map (fun q => fBlk L Lc q.2)
theorem fSlots_congr {L L' Lc : Leaves} {F0 : Fr} : ∀ {ps : List (Nat × VPat)},ps.map (fun q => fAV L' Lc q.2) = ps.map (fun q => fAV L Lc q.2) -> fSlots L' Lc F0 ps = fSlots L Lc F0 ps
 | [],_ => rfl
 | (t,p) :: r,h => by
  simp only [List.map_cons,List.cons.injEq] at h
  simp only [fSlots]
  rw [h.1,fSlots_congr h.2]
theorem fHeap_congr {L L' Lc : Leaves} {H0 : Heap} : ∀ {ps : List (Nat × BPat)},ps.map (fun q => fBlk L' Lc q.2) = ps.map (fun q => fBlk L Lc q.2) -> fHeap L' Lc H0 ps = fHeap L Lc H0 ps
 | [],_ => rfl
 | (t,p) :: r,h => by
  simp only [List.map_cons,List.cons.injEq] at h
  simp only [fHeap]
  rw [h.1,fHeap_congr h.2]
theorem fSlots_get (L Lc : Leaves) : ∀ (ps : List (Nat × VPat)) (j : Nat),(∃ q ∈ ps,q.1 = j /\ ∀ F0,fSlots L Lc F0 ps j = fAV L Lc q.2) \/ (∀ F0,fSlots L Lc F0 ps j = F0 j)
 | [],j => Or.inr fun F0 => rfl
 | (t,p) :: r,j => by
  by_cases h : j = t
  ·subst h
   exact Or.inl ⟨(j,p),by simp,rfl,fun F0 => by simp only [fSlots,putF_same]⟩
  ·rcases fSlots_get L Lc r j with ⟨q,hq,hj,hv⟩ | hv
   ·exact Or.inl ⟨q,by simp [hq],hj,fun F0 => by simp only [fSlots]; rw [putF_other h,hv]⟩
   ·exact Or.inr fun F0 => by simp only [fSlots]; rw [putF_other h,hv]
theorem fHeap_over (L Lc : Leaves) : ∀ (ps : List (Nat × BPat)) (t : Nat),(t ∈ ids ps /\ ∀ H0,fHeap L Lc H0 ps t = fHeap L Lc noHeap ps t) \/ (t ∉ ids ps /\ ∀ H0,fHeap L Lc H0 ps t = H0 t)
 | [],t => Or.inr ⟨by simp [ids],fun H0 => rfl⟩
 | (t',p) :: r,t => by
  by_cases h : t = t'
  ·subst h
   exact Or.inl ⟨by simp [ids],fun H0 => by simp only [fHeap,putH_same]⟩
  ·rcases fHeap_over L Lc r t with ⟨h1,h2⟩ | ⟨h1,h2⟩
   ·exact Or.inl ⟨by simp [ids,h1],fun H0 => by simp only [fHeap]; rw [putH_other h,putH_other h,h2]⟩
   ·exact Or.inr ⟨by simp [ids,h1,h],fun H0 => by simp only [fHeap]; rw [putH_other h,h2]⟩
theorem viewsOk_get {mov : List Nat} : ∀ {σ : List View} {t i : Nat} {v : View},viewsOk mov t σ = true -> σ[i]? = some v ->
  v = .none \/ v = .whole (t + i) \/ (t + i ∈ mov /\ ((∃ id,v = .whole id) \/ v = .empty))
 | [],t,i,v,_,h => by simp at h
 | v0 :: vs,t,0,v,h,hv => by
  simp at hv
  subst hv
  cases v0 with
  | none => exact Or.inl rfl
  | whole id =>
   simp only [viewsOk,Bool.and_eq_true,Bool.or_eq_true] at h
   rcases h.1 with h1 | h1
   ·have := Nat.eq_of_beq_eq_true h1
    subst this
    exact Or.inr (Or.inl rfl)
   ·exact Or.inr (Or.inr ⟨mem_iff.1 h1,Or.inl ⟨id,rfl⟩⟩)
  | empty =>
   simp only [viewsOk,Bool.and_eq_true] at h
   exact Or.inr (Or.inr ⟨mem_iff.1 h.1,Or.inr rfl⟩)
  | part => simp [viewsOk] at h
 | v0 :: vs,t,i + 1,v,h,hv => by
  simp at hv
  have : viewsOk mov (t + 1) vs = true := by cases v0 <;> simp_all [viewsOk]
  have := viewsOk_get this hv
  rwa [show t + 1 + i = t + (i + 1) by omega] at this
theorem wholeIds_mem : ∀ {σ : List View} {t id : Nat},σ[t]? = some (.whole id) -> id ∈ wholeIds σ
 | [],t,id,h => by simp at h
 | v :: vs,0,id,h => by simp at h; subst h; simp [wholeIds]
 | v :: vs,t + 1,id,h => by
  simp at h
  have := wholeIds_mem h
  cases v <;> simp [wholeIds,this]
theorem viewsIn_get {mov : List Nat} {nx : Nat} : ∀ {σ : List View} {t i : Nat} {v : View},viewsIn mov nx t σ = true -> σ[i]? = some v ->
  v = .none \/ v = .whole (t + i) \/ (t + i ∈ mov /\ nx <= t + i /\ (v = .empty \/ ∃ id,v = .whole id))
 | [],t,i,v,_,h => by simp at h
 | v0 :: vs,t,0,v,h,hv => by
  simp at hv
  subst hv
  cases v0 with
  | none => exact Or.inl rfl
  | whole id =>
   simp only [viewsIn,Bool.and_eq_true,Bool.or_eq_true] at h
   rcases h.1 with h1 | h1
   ·have := Nat.eq_of_beq_eq_true h1
    subst this
    exact Or.inr (Or.inl rfl)
   ·exact Or.inr (Or.inr ⟨mem_iff.1 h1.1,by simpa using h1.2,Or.inr ⟨id,rfl⟩⟩)
  | empty =>
   simp only [viewsIn,Bool.and_eq_true] at h
   exact Or.inr (Or.inr ⟨mem_iff.1 h.1,by simpa using h.2.1,Or.inl rfl⟩)
  | part => simp [viewsIn] at h
 | v0 :: vs,t,i + 1,v,h,hv => by
  simp at hv
  have : viewsIn mov nx (t + 1) vs = true := by
   cases v0 with
   | whole id => simp only [viewsIn,Bool.and_eq_true] at h; exact h.2
   | _ => simp_all [viewsIn]
  have := viewsIn_get this hv
  rwa [show t + 1 + i = t + (i + 1) by omega] at this
theorem namedOnly_get {l : List Nat} : ∀ {σ : List View} {t i : Nat} {v : View},namedOnly l t σ = true -> σ[i]? = some v -> v = .none \/ t + i ∈ l
 | [],t,i,v,_,h => by simp at h
 | v0 :: vs,t,0,v,h,hv => by
  simp at hv
  subst hv
  cases v0 with
  | none => exact Or.inl rfl
  | _ => simp only [namedOnly,Bool.and_eq_true] at h; exact Or.inr (mem_iff.1 h.1)
 | v0 :: vs,t,i + 1,v,h,hv => by
  simp at hv
  have : namedOnly l (t + 1) vs = true := by cases v0 <;> simp_all [namedOnly]
  have := namedOnly_get this hv
  rwa [show t + 1 + i = t + (i + 1) by omega] at this
open Classical in
noncomputable def baseL (E : Env) (H : Heap) (fp : Fp) (w : World) (σ : List View) (lent mov : List Nat) (nx : Nat) : Env where
 info := fun t => if t < nx then (if t ∈ mov then (baseE E H fp w σ lent).info t else E.info t) else none
 M := (baseE E H fp w σ lent).M
theorem baseL_le {σ : List View} {lent mov : List Nat} {nx : Nat} (hlen : σ.length = nx) (hv : ∀ t v,σ[t]? = some v -> v = .none \/ t ∈ mov \/ v = .whole t) :
  (baseE E H fp w σ lent).Le (baseL E H fp w σ lent mov nx) where
 info := fun t I hI => by
  have ht : t < nx := by
   rcases Nat.lt_or_ge t nx with h | h
   ·exact h
   ·simp only [baseE] at hI
    rw [List.getElem?_eq_none (by omega)] at hI
    simp at hI
  simp only [baseL,if_pos ht]
  split
  ·exact hI
  ·rename_i hm
   cases hs : σ[t]? with
   | none => simp [baseE,hs] at hI
   | some v =>
    rw [baseE_info hs] at hI
    rcases hv t v hs with rfl | h | rfl
    ·simp [viewInfo] at hI
    ·exact absurd h hm
    ·exact hI
 M := fun _ _ h => h
theorem Sim.le {E' : Env} (hle : E.Le E') (hM : ∀ a v,E'.M a = some v -> E.M a = some v) (hs : Sim RT E H fp w) : Sim RT E' H fp w where
 blk := fun id b hb => let ⟨I,hI,ok⟩ := hs.blk id b hb; ⟨I,hle.info id I hI,ok.mono hle⟩
 disj := hs.disj
 ro := fun a v h => hs.ro a v (hM a v h)
theorem base_rf {L Lc : Leaves} {σ : List View} {lent : List Nat} {slots : List (Nat × VPat)} (hRT : RTok RT) (hs : Sim RT E H fp w) (hF : RF RT E F a)
  (hsl : ∀ q ∈ slots,MatchV H L Lc σ lent q.2 (F q.1)) : RF RT (baseE E H fp w σ lent) (fSlots L Lc noFr slots) a := by
 intro j
 rcases fSlots_get L Lc slots j with ⟨q,hq,rfl,hv⟩ | hv
 ·rw [hv]; exact matchV_RV hRT hs (hsl q hq) (hF q.1)
 ·rw [hv]; exact R.unk _
structure Link (hi : Nat) (mv : List Nat) (E : Env) (H : Heap) (fp : Fp) (w : World) (E' : Env) (H' : Heap) (fp' : Fp) (w' : World) : Prop where
 keep : ∀ id I,id < hi -> id ∉ mv -> E.info id = some I -> E'.info id = some I
 M : ∀ a v,E.M a = some v -> E'.M a = some v
 frm : Frm w (OwnAll H fp) w'
 own : ∀ x,OwnAll H' fp' x -> x.1 < w.heap.size -> OwnAll H fp x
 ext : MExt E H fp w E'
theorem Trip.link {nx nx' : Nat} {E' : Env} {H' : Heap} {fp' : Fp} {w' : World} (h : Trip C E H fp w nx E' H' fp' w' nx') : Link C.hi C.mv E H fp w E' H' fp' w' := ⟨h.keep,h.M,h.frm,h.own,h.ext⟩
theorem Link.trans {hi : Nat} {mv : List Nat} {E' E'' : Env} {H' H'' : Heap} {fp' fp'' : Fp} {w' w'' : World}
  (h : Link hi mv E H fp w E' H' fp' w') (k : Link hi mv E' H' fp' w' E'' H'' fp'' w'') : Link hi mv E H fp w E'' H'' fp'' w'' where
 keep := fun id I h1 h2 hI => k.keep id I h1 h2 (h.keep id I h1 h2 hI)
 M := fun a v ha => k.M a v (h.M a v ha)
 frm := h.frm.trans k.frm h.own
 own := fun x hx hlt => h.own x (k.own x hx (Nat.lt_of_lt_of_le hlt h.frm.size)) hlt
 ext := h.ext.trans k.ext h.frm.size h.own
theorem base_link {L Lc : Leaves} {σ : List View} {lent mov : List Nat} {blks : List (Nat × BPat)} {nx : Nat} (hs : Sim RT E H fp w)
  (hm : ∀ q ∈ blks,q.2 = .dead \/ ∃ v,σ[q.1]? = some v /\ MatchB H L Lc σ lent q.2 v)
  (hp : ∀ (t id lo n : Nat) g kd xs,σ[t]? = some (.part id lo n) -> H id = some (.ints g kd xs) -> lo + n <= xs.length) :
  Link nx mov E H fp w (baseL E H fp w σ lent mov nx) (fHeap L Lc noHeap blks) (baseFp E fp σ) w where
 keep := fun id I h1 h2 hI => by simp only [baseL,if_pos h1,if_neg h2]; exact hI
 M := fun a v h => baseE_M (H:=H) (fp:=fp) (w:=w) (σ:=σ) (lent:=lent) h
 frm := .refl _ _
 own := fun x ⟨t,b,hb,hx⟩ _ => by
  obtain ⟨v,id,b',_,_,h3,h4⟩ := base_own hs hm hp hb hx
  exact ⟨id,b',h3,h4⟩
 ext := fun ad v h => baseE_ext (σ:=σ) (lent:=lent) ad v h
def loopG {Z : Type} (A : Ann) (Lc : Leaves) (body : EvC) (kr : KS Z) (fin : A.T -> Z) : Nat -> Leaves -> Option Z
 | 0,_ => none
 | n + 1,L => body Z kr (fun ex F H _ => match ex with
   | .normal => mState A.nx H (some Lc) F A.slots A.blks fun m =>
     gate (namedOnly (ids A.blks) 0 m.σ && (viewsOk A.mov 0 m.σ && viewsApart m.σ)) (gate (lentApart m.σ m.lent) (loopG A Lc body kr fin n m.leaves))
   | .exit id => gate (Nat.beq id A.exId) (mState A.nx H (some Lc) F A.xslots A.xblks fun m =>
     gate (namedOnly (ids A.blks) 0 m.σ && (viewsOk A.mov 0 m.σ && viewsApart m.σ)) (gate (lentApart m.σ m.lent) (some (fin (A.dec m.leaves))))))
   (fSlots L Lc noFr A.slots) (fHeap L Lc noHeap A.blks) A.nx
theorem loopF_eq (A : Ann) (Lc : Leaves) (body : EvC) : ∀ n L,loopF A Lc body n L = loopG A Lc body (fun _ _ _ => none) (fun t => t) n L
 | 0,_ => rfl
 | n + 1,L => by simp only [loopF,loopG,loopF_eq A Lc body n]; rfl
theorem loopR_eq (A : Ann) (Lc : Leaves) (body : EvC) (kr : KS Y) : ∀ n L,loopR A Lc body kr n L = loopG A Lc body (fun F H nx => omap (kr F H nx) .inr) .inl n L
 | 0,_ => rfl
 | n + 1,L => by simp only [loopR,loopG,loopR_eq A Lc body kr n]; rfl
structure Head (C : Cfg) (A : Ann) (Lc : Leaves) (E0 : Env) (H0 : Heap) (fp0 : Fp) (w0 : World) (a0 : Act) (n : Nat) (g : Nat -> Bool) (L : Leaves) (E : Env) (fp : Fp) (w : World) (a : Act) : Prop where
 st : St C.RT E (fHeap L Lc noHeap A.blks) fp w (fSlots L Lc noFr A.slots) a A.nx n
 link : Link A.nx A.mov E0 H0 fp0 w0 E (fHeap L Lc noHeap A.blks) fp w
 same : Same g a0 a
def LoopPost {Z : Type} (C : Cfg) (A : Ann) (Lc : Leaves) (kr : KS Z) (fin : A.T -> Z) (z : Z) (E0 : Env) (H0 : Heap) (fp0 : Fp) (w0 : World) (a0 : Act) (n : Nat) (g : Nat -> Bool) : Exit -> Act -> World -> Prop
 | .exit id,a',w' => id = A.exId /\ ∃ L' Ex fpx,fin (A.dec L') = z /\ St C.RT Ex (fHeap L' Lc noHeap A.xblks) fpx w' (fSlots L' Lc noFr A.xslots) a' A.nx n /\
   (∀ t I,Ex.info t = some I -> t < A.nx /\ t ∈ ids A.blks /\ (t ∈ A.mov \/ E0.info t = some I)) /\ Frm w0 (OwnAll H0 fp0) w' /\
   (∀ x,OwnAll (fHeap L' Lc noHeap A.xblks) fpx x -> x.1 < w0.heap.size -> OwnAll H0 fp0 x) /\ Same g a0 a' /\
   (A.plain = false -> (∀ ad v,E0.M ad = some v -> Ex.M ad = some v) /\ MExt E0 H0 fp0 w0 Ex)
 | .ret,a',w' => ∃ F' H' nx' E' fp',kr F' H' nx' = some z /\ St C.RT E' H' fp' w' F' a' nx' n /\ Link A.nx A.mov E0 H0 fp0 w0 E' H' fp' w' /\ A.nx <= nx' /\ Same g a0 a'
 | _,_,_ => False
theorem loop_rounds {K : FCfg} {inl : Inl} {A : Ann} {c : Code} {Z : Type} {z : Z} {Lc : Leaves} {kr : KS Z} {fin : A.T -> Z} {E0 : Env} {H0 : Heap} {fp0 : Fp} {w0 : World} {a0 : Act} {n : Nat}
  (hRT : RTok C.RT) (hb : CodeOK (C.inLoop A) K inl c) (hd : dstsOk n c = true) (hlive : ∀ t ∈ ids A.blks,∃ J,E0.info t = some J) :
  ∀ (N : Nat) (L : Leaves) (E : Env) (fp : Fp) (w : World) (a : Act),loopG A Lc (evCode (C.inLoop A) K inl c) kr fin N L = some z -> Head C A Lc E0 H0 fp0 w0 a0 n (asg c) L E fp w a ->
   Code.rounds C.P c (LoopPost C A Lc kr fin z E0 H0 fp0 w0 a0 n (asg c)) N a w
 | 0,L,E,fp,w,a,hk,_ => by simp [loopG] at hk
 | N + 1,L,E,fp,w,a,hk,hh => by
  simp only [loopG] at hk
  rw [rounds_succ]
  refine wp_mono (hb Z z _ _ _ _ _ E fp w a n hk hh.st hd) fun e a' w' hq => ?_
  cases e with
  | normal =>
   obtain ⟨F',H',nx',E',fp',g1,g2,g3,g4⟩ := hq
   simp only [mState] at g1
   obtain ⟨m1,h1,e1,k1⟩ := mSlots_sound g1
   obtain ⟨m,h2,e2,k2⟩ := mBlks_sound h1
   rw [gate_some,gate_some] at h2
   obtain ⟨hg,hla,hnext⟩ := h2
   simp only [Bool.and_eq_true] at hg
   obtain ⟨hn,hvo,hva⟩ := hg
   have hsl := k1 m e2
   have hbl := k2 m (.refl m)
   simp only [lcOf] at hsl hbl
   have hlen : m.σ.length = A.nx := by rw [(e1.trans e2).σlen]; exact nones_length _
   have hv : ∀ t v,m.σ[t]? = some v -> v = .none \/ t ∈ A.mov \/ v = .whole t := by
    intro t v h
    rcases viewsOk_get hvo h with h | h | ⟨h,_⟩
    ·exact Or.inl h
    ·rw [Nat.zero_add] at h; exact Or.inr (Or.inr h)
    ·rw [Nat.zero_add] at h; exact Or.inr (Or.inl h)
   have hp : ∀ (t id lo n : Nat) g kd xs,m.σ[t]? = some (.part id lo n) -> H' id = some (.ints g kd xs) -> lo + n <= xs.length := by
    intro t id lo n g kd xs h _
    rcases viewsOk_get hvo h with h | h | ⟨_,⟨id',h⟩ | h⟩ <;> simp at h
   have hle := baseL_le (E:=E') (H:=H') (fp:=fp') (w:=w') (lent:=m.lent) hlen hv
   have hsim := (Sim.base hRT g2.sim hbl hva hla hp).le hle (fun _ _ h => h)
   have hrf := (base_rf hRT g2.sim g2.rf hsl).mono hle
   refine loop_rounds hRT hb hd hlive N m.leaves _ _ w' a' hnext ⟨⟨hsim,fun id hid => ?_,hrf,g2.size,g2.df⟩,?_,hh.same.trans g4⟩
   ·simp only [baseL]; rw [if_neg (by omega)]
   ·exact (hh.link.trans g3.link).trans (base_link g2.sim hbl hp)
  | exit id =>
   obtain ⟨F',H',nx',E',fp',g1,g2,g3,g4⟩ := hq
   simp only at g1
   rw [gate_some] at g1
   obtain ⟨hid,g1⟩ := g1
   simp only [mState] at g1
   obtain ⟨m1,h1,e1,k1⟩ := mSlots_sound g1
   obtain ⟨m,h2,e2,k2⟩ := mBlks_sound h1
   rw [gate_some,gate_some] at h2
   obtain ⟨hg,hla,hnext⟩ := h2
   simp only [Bool.and_eq_true] at hg
   obtain ⟨hn,hvo,hva⟩ := hg
   have hsl := k1 m e2
   have hbl := k2 m (.refl m)
   simp only [lcOf] at hsl hbl
   have hlen : m.σ.length = A.nx := by rw [(e1.trans e2).σlen]; exact nones_length _
   have hp : ∀ (t id lo n : Nat) g kd xs,m.σ[t]? = some (.part id lo n) -> H' id = some (.ints g kd xs) -> lo + n <= xs.length := by
    intro t id lo n g kd xs h _
    rcases viewsOk_get hvo h with h | h | ⟨_,⟨id',h⟩ | h⟩ <;> simp at h
   have hlk := hh.link.trans g3.link
   have hsim := Sim.base hRT g2.sim hbl hva hla hp
   simp only [Option.some.injEq] at hnext
   refine ⟨Nat.eq_of_beq_eq_true hid,m.leaves,_,_,hnext,⟨hsim,fun id hid => ?_,base_rf hRT g2.sim g2.rf hsl,g2.size,g2.df⟩,fun t I hI => ?_,hlk.frm,fun x hx hlt => ?_,hh.same.trans g4,fun hpl => ?_⟩
   ·simp only [baseE]; rw [List.getElem?_eq_none (by omega)]
   ·cases hs : m.σ[t]? with
    | none => simp [baseE,hs] at hI
    | some v =>
     rw [baseE_info hs] at hI
     have ht : t < A.nx := by
      rcases Nat.lt_or_ge t A.nx with h | h
      ·exact h
      ·rw [List.getElem?_eq_none (by omega)] at hs; simp at hs
     have hmem : t ∈ ids A.blks := by
      rcases namedOnly_get hn hs with rfl | h
      ·simp [viewInfo] at hI
      ·simpa using h
     refine ⟨ht,hmem,?_⟩
     by_cases hmv : t ∈ A.mov
     ·exact Or.inl hmv
     ·right
      rcases viewsOk_get hvo hs with rfl | h | ⟨h,_⟩
      ·simp [viewInfo] at hI
      ·rw [Nat.zero_add] at h
       subst h
       simp only [viewInfo] at hI
       obtain ⟨J,hJ⟩ := hlive t hmem
       have := hlk.keep t J ht hmv hJ
       rw [this] at hI
       rw [hJ,hI]
      ·rw [Nat.zero_add] at h; exact absurd h hmv
   ·obtain ⟨t,b,hb',hx'⟩ := hx
    obtain ⟨v,id',b',_,_,h3,h4⟩ := base_own g2.sim hbl hp hb' hx'
    exact hlk.own x ⟨id',b',h3,h4⟩ hlt
   ·refine ⟨fun ad v h => baseE_M (hlk.M ad v h),fun ad v h => ?_⟩
    rcases baseE_ext (σ:=m.σ) (lent:=m.lent) ad v h with h | h | h
    ·exact hlk.ext ad v h
    ·exact Or.inr (Or.inl (Nat.le_trans hlk.frm.size h))
    ·rcases Nat.lt_or_ge ad.block w0.heap.size with hl | hl
     ·exact Or.inr (Or.inr (hlk.own _ h hl))
     ·exact Or.inr (Or.inl hl)
  | ret =>
   obtain ⟨F',H',nx',E',fp',g1,g2,g3,g4⟩ := hq
   exact ⟨F',H',nx',E',fp',g1,g2,hh.link.trans g3.link,g3.nx,hh.same.trans g4⟩
  | goto l => exact hq.elim
  | panic ch => exact hq.elim
  | outgrown => exact hq.elim
end Go.Eng
/-
  The engine, part twelve (a): what an operation comes to is one value.
  Conditions: none; nothing is claimed of the program here.
-/
namespace Go.Eng
variable {RT : RoTab} {E : Env} {F : Fr} {a : Act} {H : Heap} {fp : Fp} {w : World} {P : Program} {Y : Type} {y : Y} {C : Cfg}
def Cp {X : Type} (f : {Y : Type} -> (X -> Option Y) -> Option Y) : Prop := ∀ (Y : Type) (k : X -> Option Y) (y : Y),f k = some y -> ∃ x,f some = some x /\ k x = some y
theorem gate_lift {X : Type} {b : Bool} {z : Option Y} {z' : Option X} {k : X -> Option Y} (hk : gate b z = some y) (h : z = some y -> ∃ x,z' = some x /\ k x = some y) :
    ∃ x,gate b z' = some x /\ k x = some y := by
  rw [gate_some] at hk
  obtain ⟨x,h1,h2⟩ := h hk.2
  exact ⟨x,gate_some.2 ⟨hk.1,h1⟩,h2⟩
theorem chk_lift {X : Type} {c : Prop} [Decidable c] {z : Option Y} {z' : Option X} {k : X -> Option Y} (hk : chk c z = some y) (h : z = some y -> ∃ x,z' = some x /\ k x = some y) :
    ∃ x,chk c z' = some x /\ k x = some y := by
  rw [chk_some] at hk
  obtain ⟨x,h1,h2⟩ := h hk.2
  exact ⟨x,chk_some.2 ⟨hk.1,h1⟩,h2⟩
theorem capA_lift {X : Type} {e : TypeId} {n : Nat} {z : Option Y} {z' : Option X} {k : X -> Option Y} (hk : capA P e n z = some y) (h : z = some y -> ∃ x,z' = some x /\ k x = some y) :
    ∃ x,capA P e n z' = some x /\ k x = some y := by
  rw [capA_some] at hk
  obtain ⟨x,h1,h2⟩ := h hk.2
  exact ⟨x,capA_some.2 ⟨hk.1,h1⟩,h2⟩
theorem none_lift {X : Type} {z' : Option X} {k : X -> Option Y} (hk : (none : Option Y) = some y) : ∃ x,z' = some x /\ k x = some y := by simp at hk
theorem leaf_lift {X : Type} {x : X} {k : X -> Option Y} (hk : k x = some y) : ∃ x',some x = some x' /\ k x' = some y := ⟨x,rfl,hk⟩
theorem partA_cp {t : TypeId} {cs : List Atom} {off : Nat} : Cp (fun k => partA P t cs off k) := by
  intro Y k y hk
  unfold partA at hk ⊢
  repeat' split at hk
  all_goals first | exact none_lift hk | exact leaf_lift hk | exact gate_lift hk leaf_lift | exact gate_lift hk none_lift
theorem evLoad_cp {t : TypeId} {x : Atom} : Cp (fun k => evLoad P H t x k) := by
  intro Y k y hk
  unfold evLoad at hk ⊢
  split at hk
  · split at hk
    · exact partA_cp _ _ _ hk
    · split at hk
      · exact chk_lift hk leaf_lift
      · exact chk_lift hk leaf_lift
      · exact none_lift hk
    · exact none_lift hk
  · split at hk
    · exact gate_lift hk leaf_lift
    · exact partA_cp _ _ _ hk
    · refine gate_lift hk fun hk => ?_
      unfold br at hk ⊢
      split at hk
      · exact leaf_lift hk
      · exact leaf_lift hk
    · exact none_lift hk
  · exact partA_cp _ _ _ hk
  · exact none_lift hk
theorem evBin_cp {op : BinOp} {t : TypeId} {x z : AV} : Cp (fun k => evBin P op t x z k) := by
  intro Y k y hk
  unfold evBin at hk ⊢
  split at hk
  · split at hk
    · exact chk_lift hk leaf_lift
    · exact chk_lift hk leaf_lift
    · exact gate_lift hk fun hk => chk_lift hk leaf_lift
    · exact gate_lift hk fun hk => chk_lift hk leaf_lift
    · refine gate_lift hk fun hk => ?_
      split at hk
      · exact leaf_lift hk
      · exact none_lift hk
  all_goals first
    | exact none_lift hk
    | (split at hk <;> first | exact none_lift hk | (split at hk <;> first | exact none_lift hk | (split at hk <;> first | exact none_lift hk | exact leaf_lift hk) | exact gate_lift hk fun hk => chk_lift hk fun hk => by split at hk <;> first | exact none_lift hk | exact leaf_lift hk) | exact leaf_lift hk)
theorem evUn_cp {op : UnOp} {x : AV} : Cp (fun k => evUn op x k) := by
  intro Y k y hk
  unfold evUn at hk ⊢
  split at hk <;> first | exact none_lift hk | exact leaf_lift hk
theorem evConv_cp {s d : TypeId} {x : AV} : Cp (fun k => evConv P s d x k) := by
  intro Y k y hk
  unfold evConv at hk ⊢
  split at hk
  · exact leaf_lift hk
  · split at hk
    · exact leaf_lift hk
    · exact none_lift hk
  · exact none_lift hk
theorem evField_cp {t : TypeId} {x : AV} {f : Nat} : Cp (fun k => evField P t x f k) := by
  intro Y k y hk
  unfold evField at hk ⊢
  split at hk
  · split at hk
    · exact partA_cp _ _ _ hk
    · exact none_lift hk
  · exact none_lift hk
theorem evFieldAddr_cp {t : TypeId} {x : AV} {f : Nat} : Cp (fun k => evFieldAddr P t x f k) := by
  intro Y k y hk
  unfold evFieldAddr at hk ⊢
  split at hk
  · split at hk
    · refine gate_lift hk fun hk => ?_
      split at hk <;> first | exact none_lift hk | exact leaf_lift hk
    · exact none_lift hk
  · exact none_lift hk
theorem caseN_lift {X : Type} {i : Int} {z : Nat -> Option Y} {z' : Nat -> Option X} {k : X -> Option Y} : ∀ (n : Nat),caseN i n z = some y -> (∀ j,z j = some y -> ∃ x,z' j = some x /\ k x = some y) -> ∃ x,caseN i n z' = some x /\ k x = some y
  | 0,hk,_ => none_lift hk
  | 1,hk,hz => hz 0 hk
  | n + 2,hk,hz => by
    simp only [caseN] at hk ⊢
    unfold br at hk ⊢
    split at hk
    · exact hz _ hk
    · exact caseN_lift (n + 1) hk hz
theorem evIndexAddr_cp {t : TypeId} {x ix : AV} : Cp (fun k => evIndexAddr P RT H t x ix k) := by
  intro Y k y hk
  unfold evIndexAddr at hk ⊢
  split at hk
  · split at hk
    · split at hk
      · exact gate_lift hk fun hk => chk_lift hk leaf_lift
      · exact none_lift hk
    · exact none_lift hk
  · split at hk
    · exact gate_lift hk fun hk => chk_lift hk leaf_lift
    · exact gate_lift hk fun hk => chk_lift hk fun hk => caseN_lift _ hk fun j hk => leaf_lift hk
  · exact none_lift hk
theorem evIndex_cp {t : TypeId} {x ix : AV} : Cp (fun k => evIndex P t x ix k) := by
  intro Y k y hk
  unfold evIndex at hk ⊢
  split at hk
  · split at hk
    · split at hk
      · exact gate_lift hk fun hk => chk_lift hk leaf_lift
      · exact none_lift hk
    · exact none_lift hk
  · exact chk_lift hk leaf_lift
  · exact none_lift hk
theorem evExtract_cp {x : AV} {i : Nat} : Cp (fun k => evExtract x i k) := by
  intro Y k y hk
  unfold evExtract at hk ⊢
  split at hk
  · split at hk <;> first | exact none_lift hk | exact leaf_lift hk
  · exact none_lift hk
theorem evAssert_cp {x : AV} {t : TypeId} {ok : Bool} : Cp (fun k => evAssert P x t ok k) := by
  intro Y k y hk
  unfold evAssert at hk ⊢
  split at hk
  · exact none_lift hk
  · refine gate_lift hk fun hk => ?_
    split at hk <;> first | exact none_lift hk | exact leaf_lift hk
  · exact none_lift hk
theorem evIface_cp {t : TypeId} {x : AV} : Cp (fun k => evIface P t x k) := by
  intro Y k y hk
  unfold evIface at hk ⊢
  split at hk <;> first | exact none_lift hk | exact leaf_lift hk
theorem evBuild_cp {t : TypeId} {parts : List (Nat × AV)} : Cp (fun k => evBuild P t parts k) := by
  intro Y k y hk
  unfold evBuild at hk ⊢
  split at hk
  · split at hk
    · exact gate_lift hk leaf_lift
    · exact none_lift hk
  · split at hk
    · exact gate_lift hk leaf_lift
    · exact none_lift hk
  · exact none_lift hk
theorem evMinMax_cp {mx : Bool} {l : List AV} : Cp (fun k => evMinMax mx l k) := by
  intro Y k y hk
  change evMinMax mx l k = some y at hk
  have h : ∃ kx a ky b,l = [.at (.int kx a),.at (.int ky b)] := by
    unfold evMinMax at hk
    split at hk
    · exact ⟨_,_,_,_,rfl⟩
    · simp at hk
  obtain ⟨kx,a,ky,b,rfl⟩ := h
  cases mx <;> exact leaf_lift hk
theorem evLen_cp {t : TypeId} {x : AV} : Cp (fun k => evLen P RT H t x k) := by
  intro Y k y hk
  unfold evLen at hk ⊢
  split at hk
  · split at hk <;> first | exact none_lift hk | exact leaf_lift hk
  · exact leaf_lift hk
  · exact leaf_lift hk
  · exact none_lift hk
theorem bound_lift {X : Type} {x : Option AV} {d m : Nat} {z : Nat -> Option Y} {z' : Nat -> Option X} {k : X -> Option Y} (hk : boundA x d m z = some y) (h : ∀ n,z n = some y -> ∃ x,z' n = some x /\ k x = some y) :
    ∃ x',boundA x d m z' = some x' /\ k x' = some y := by
  unfold boundA at hk ⊢
  split at hk
  · exact h _ hk
  · exact chk_lift hk (h _)
  · exact none_lift hk
theorem evSlice_cp {t : TypeId} {x : AV} {lo hi : Option AV} {mx : Bool} : Cp (fun k => evSlice P RT H t x lo hi mx k) := by
  intro Y k y hk
  unfold evSlice at hk ⊢
  split at hk
  · split at hk
    · refine gate_lift hk fun hk => bound_lift hk fun n hk => bound_lift hk fun n hk => ?_
      split at hk
      · exact leaf_lift hk
      · exact none_lift hk
    · exact none_lift hk
  · refine gate_lift hk fun hk => ?_
    split at hk
    · exact chk_lift hk fun hk => bound_lift hk fun n hk => bound_lift hk fun n hk => leaf_lift hk
    · exact bound_lift hk fun n hk => bound_lift hk fun n hk => leaf_lift hk
    · exact none_lift hk
  · exact none_lift hk
theorem evR_cp {op : Op} : Cp (fun k => evR P RT H F op k) := by
  intro Y k y hk
  unfold evR at hk ⊢
  split at hk
  · exact leaf_lift hk
  · exact leaf_lift hk
  · split at hk
    · rename_i c hc
      cases c <;> exact leaf_lift hk
    · exact none_lift hk
  · split at hk
    · exact evLoad_cp _ _ _ hk
    · exact none_lift hk
  · split at hk <;> first | exact none_lift hk | exact leaf_lift hk
  · exact evBin_cp _ _ _ hk
  · exact evUn_cp _ _ _ hk
  · exact evConv_cp _ _ _ hk
  · exact evIface_cp _ _ _ hk
  · split at hk <;> first | exact none_lift hk | exact leaf_lift hk
  · exact evFieldAddr_cp _ _ _ hk
  · exact evField_cp _ _ _ hk
  · exact evIndexAddr_cp _ _ _ hk
  · exact evIndex_cp _ _ _ hk
  · exact evAssert_cp _ _ _ hk
  · exact evExtract_cp _ _ _ hk
  · exact evBuild_cp _ _ _ hk
  · exact evSlice_cp _ _ _ hk
  · split at hk
    · exact evMinMax_cp _ _ _ hk
    · exact evMinMax_cp _ _ _ hk
    · split at hk
      · exact evLen_cp _ _ _ hk
      · exact none_lift hk
    · exact none_lift hk
  · exact none_lift hk
theorem evLit_cp {op : Op} : Cp (fun k => evLit P F op k) := by
  intro Y k y hk
  unfold evLit at hk ⊢
  repeat' split at hk
  all_goals first | exact none_lift hk | exact gate_lift hk leaf_lift | exact leaf_lift hk
theorem pushI_lift {X : Type} {m : MS} {h : Nat} {n : Int} {z : MS -> Option Y} {z' : MS -> Option X} {k : X -> Option Y} (hk : pushI m h n z = some y) (hz : ∀ m,z m = some y -> ∃ x,z' m = some x /\ k x = some y) :
    ∃ x,pushI m h n z' = some x /\ k x = some y := gate_lift hk (hz _)
theorem pushB_lift {X : Type} {m : MS} {h : Nat} {n : Bool} {z : MS -> Option Y} {z' : MS -> Option X} {k : X -> Option Y} (hk : pushB m h n z = some y) (hz : ∀ m,z m = some y -> ∃ x,z' m = some x /\ k x = some y) :
    ∃ x,pushB m h n z' = some x /\ k x = some y := gate_lift hk (hz _)
theorem pushL_lift {X : Type} {m : MS} {h : Nat} {n : List Int} {z : MS -> Option Y} {z' : MS -> Option X} {k : X -> Option Y} (hk : pushL m h n z = some y) (hz : ∀ m,z m = some y -> ∃ x,z' m = some x /\ k x = some y) :
    ∃ x,pushL m h n z' = some x /\ k x = some y := gate_lift hk (hz _)
theorem pushR_lift {X : Type} {m : MS} {h : Nat} {n : List (List Int)} {z : MS -> Option Y} {z' : MS -> Option X} {k : X -> Option Y} (hk : pushR m h n z = some y) (hz : ∀ m,z m = some y -> ∃ x,z' m = some x /\ k x = some y) :
    ∃ x,pushR m h n z' = some x /\ k x = some y := gate_lift hk (hz _)
theorem chkI_lift {X : Type} {a b : Int} {z : Option Y} {z' : Option X} {k : X -> Option Y} (hk : chkI a b z = some y) (h : z = some y -> ∃ x,z' = some x /\ k x = some y) :
    ∃ x,chkI a b z' = some x /\ k x = some y := by
  rw [chkI_some] at hk
  obtain ⟨x,h1,h2⟩ := h hk.2
  exact ⟨x,chkI_some.2 ⟨hk.1,h1⟩,h2⟩
theorem chkB_lift {X : Type} {a b : Bool} {z : Option Y} {z' : Option X} {k : X -> Option Y} (hk : chkB a b z = some y) (h : z = some y -> ∃ x,z' = some x /\ k x = some y) :
    ∃ x,chkB a b z' = some x /\ k x = some y := by
  rw [chkB_some] at hk
  obtain ⟨x,h1,h2⟩ := h hk.2
  exact ⟨x,chkB_some.2 ⟨hk.1,h1⟩,h2⟩
theorem chkL_lift {X : Type} {a b : List Int} {z : Option Y} {z' : Option X} {k : X -> Option Y} (hk : chkL a b z = some y) (h : z = some y -> ∃ x,z' = some x /\ k x = some y) :
    ∃ x,chkL a b z' = some x /\ k x = some y := by
  rw [chkL_some] at hk
  obtain ⟨x,h1,h2⟩ := h hk.2
  exact ⟨x,chkL_some.2 ⟨hk.1,h1⟩,h2⟩
theorem chkR_lift {X : Type} {a b : List (List Int)} {z : Option Y} {z' : Option X} {k : X -> Option Y} (hk : chkR a b z = some y) (h : z = some y -> ∃ x,z' = some x /\ k x = some y) :
    ∃ x,chkR a b z' = some x /\ k x = some y := by
  rw [chkR_some] at hk
  obtain ⟨x,h1,h2⟩ := h hk.2
  exact ⟨x,chkR_some.2 ⟨hk.1,h1⟩,h2⟩
theorem chkN_lift {X : Type} {a b : Nat} {z : Option Y} {z' : Option X} {k : X -> Option Y} (hk : chkN a b z = some y) (h : z = some y -> ∃ x,z' = some x /\ k x = some y) :
    ∃ x,chkN a b z' = some x /\ k x = some y := by
  rw [chkN_some] at hk
  obtain ⟨x,h1,h2⟩ := h hk.2
  exact ⟨x,chkN_some.2 ⟨hk.1,h1⟩,h2⟩
theorem fixI_lift {X : Type} {Lc : Option Leaves} {m : MS} {h : Nat} {n : Int} {z : MS -> Option Y} {z' : MS -> Option X} {k : X -> Option Y} (hk : fixI Lc m h n z = some y) (hz : ∀ m,z m = some y -> ∃ x,z' m = some x /\ k x = some y) :
    ∃ x,fixI Lc m h n z' = some x /\ k x = some y := by
  cases Lc with
  | none => exact gate_lift hk (hz _)
  | some L => exact chkI_lift hk (hz _)
theorem fixB_lift {X : Type} {Lc : Option Leaves} {m : MS} {h : Nat} {n : Bool} {z : MS -> Option Y} {z' : MS -> Option X} {k : X -> Option Y} (hk : fixB Lc m h n z = some y) (hz : ∀ m,z m = some y -> ∃ x,z' m = some x /\ k x = some y) :
    ∃ x,fixB Lc m h n z' = some x /\ k x = some y := by
  cases Lc with
  | none => exact gate_lift hk (hz _)
  | some L => exact chkB_lift hk (hz _)
theorem fixL_lift {X : Type} {Lc : Option Leaves} {m : MS} {h : Nat} {n : List Int} {z : MS -> Option Y} {z' : MS -> Option X} {k : X -> Option Y} (hk : fixL Lc m h n z = some y) (hz : ∀ m,z m = some y -> ∃ x,z' m = some x /\ k x = some y) :
    ∃ x,fixL Lc m h n z' = some x /\ k x = some y := by
  cases Lc with
  | none => exact gate_lift hk (hz _)
  | some L => exact chkL_lift hk (hz _)
theorem fixR_lift {X : Type} {Lc : Option Leaves} {m : MS} {h : Nat} {n : List (List Int)} {z : MS -> Option Y} {z' : MS -> Option X} {k : X -> Option Y} (hk : fixR Lc m h n z = some y) (hz : ∀ m,z m = some y -> ∃ x,z' m = some x /\ k x = some y) :
    ∃ x,fixR Lc m h n z' = some x /\ k x = some y := by
  cases Lc with
  | none => exact gate_lift hk (hz _)
  | some L => exact chkR_lift hk (hz _)
theorem fixN_lift {X : Type} {Lc : Option Leaves} {m : MS} {h : Nat} {n : Nat} {z : MS -> Option Y} {z' : MS -> Option X} {k : X -> Option Y} (hk : fixN Lc m h n z = some y) (hz : ∀ m,z m = some y -> ∃ x,z' m = some x /\ k x = some y) :
    ∃ x,fixN Lc m h n z' = some x /\ k x = some y := by
  cases Lc with
  | none => exact gate_lift hk (hz _)
  | some L => exact chkN_lift hk (hz _)
theorem bindView_lift {X : Type} {m : MS} {t : Nat} {v : View} {z : MS -> Option Y} {z' : MS -> Option X} {k : X -> Option Y} (hk : bindView m t v z = some y) (hz : ∀ m,z m = some y -> ∃ x,z' m = some x /\ k x = some y) :
    ∃ x,bindView m t v z' = some x /\ k x = some y := by
  unfold bindView at hk ⊢
  split at hk
  · exact hz _ hk
  · split at hk
    · exact gate_lift hk (hz _)
    · exact none_lift hk
  · exact none_lift hk
theorem roA_lift {X : Type} {kd : IntKind} {a : Atom} {z : List Int -> Option Nat -> Option Y} {z' : List Int -> Option Nat -> Option X} {k : X -> Option Y} (hk : roA H kd a z = some y)
    (hz : ∀ xs l,z xs l = some y -> ∃ x,z' xs l = some x /\ k x = some y) : ∃ x,roA H kd a z' = some x /\ k x = some y := by
  unfold roA at hk ⊢
  split at hk
  · exact gate_lift hk (hz _ _)
  · exact hz _ _ hk
  · exact hz _ _ hk
  all_goals first
    | exact none_lift hk
    | (split at hk <;> first | exact gate_lift hk (hz _ _) | exact none_lift hk)
theorem rrA_lift {X : Type} {T : RecT} {a : Atom} {z : List (List Int) -> Option Nat -> Option Y} {z' : List (List Int) -> Option Nat -> Option X} {k : X -> Option Y} (hk : rrA H T a z = some y)
    (hz : ∀ xs l,z xs l = some y -> ∃ x,z' xs l = some x /\ k x = some y) : ∃ x,rrA H T a z' = some x /\ k x = some y := by
  unfold rrA at hk ⊢
  split at hk
  · exact gate_lift hk (hz _ _)
  · exact hz _ _ hk
  · exact hz _ _ hk
  all_goals first
    | exact none_lift hk
    | (split at hk <;> first | exact gate_lift hk (hz _ _) | exact none_lift hk)
theorem mClo_lift {X : Type} {z : MS -> Option Y} {z' : MS -> Option X} {k : X -> Option Y} (hz : ∀ m,z m = some y -> ∃ x,z' m = some x /\ k x = some y) :
    ∀ {ts : List (Nat × Nat)} {cs : List Atom} {m : MS},mClo ts cs m z = some y -> ∃ x,mClo ts cs m z' = some x /\ k x = some y
  | [],[],m,hk => hz _ hk
  | (t,off) :: ts,c :: cs,m,hk => by
    cases c with
    | ptr id off' =>
      simp only [mClo] at hk ⊢
      exact gate_lift hk fun hk => bindView_lift hk fun m hk => mClo_lift hz hk
    | _ => simp [mClo] at hk
  | [],_ :: _,_,hk => by simp [mClo] at hk
  | _ :: _,[],_,hk => by simp [mClo] at hk
theorem mAtom_lift {X : Type} {Lc : Option Leaves} {p : Pat} {a : Atom} {m : MS} {z : MS -> Option Y} {z' : MS -> Option X} {k : X -> Option Y} (hk : mAtom H Lc p a m z = some y)
    (hz : ∀ m,z m = some y -> ∃ x,z' m = some x /\ k x = some y) : ∃ x,mAtom H Lc p a m z' = some x /\ k x = some y := by
  unfold mAtom at hk ⊢
  split at hk
  all_goals first
    | exact hz _ hk
    | exact pushB_lift hk hz
    | exact gate_lift hk fun hk => pushI_lift hk hz
    | exact fixB_lift hk hz
    | exact gate_lift hk fun hk => fixI_lift hk hz
    | exact gate_lift hk fun hk => bindView_lift hk hz
    | exact roA_lift hk fun xs l hk => pushL_lift hk hz
    | exact roA_lift hk fun xs l hk => fixL_lift hk hz
    | exact rrA_lift hk fun xs l hk => pushR_lift hk hz
    | exact rrA_lift hk fun xs l hk => fixR_lift hk hz
    | exact fixN_lift hk fun m hk => fixN_lift hk fun m hk => bindView_lift hk hz
    | exact gate_lift hk fun hk => mClo_lift hz hk
    | exact gate_lift hk (hz _)
    | exact none_lift hk
theorem mAtoms_lift {X : Type} {Lc : Option Leaves} {z : MS -> Option Y} {z' : MS -> Option X} {k : X -> Option Y} (hz : ∀ m,z m = some y -> ∃ x,z' m = some x /\ k x = some y) :
    ∀ {ps : List Pat} {as : List Atom} {m : MS},mAtoms H Lc ps as m z = some y -> ∃ x,mAtoms H Lc ps as m z' = some x /\ k x = some y
  | [],[],m,hk => hz _ hk
  | p :: ps,a :: as,m,hk => by
    simp only [mAtoms] at hk ⊢
    exact mAtom_lift hk fun m hk => mAtoms_lift hz hk
  | [],_ :: _,_,hk => by simp [mAtoms] at hk
  | _ :: _,[],_,hk => by simp [mAtoms] at hk
theorem mTup_lift {X : Type} {Lc : Option Leaves} {z : MS -> Option Y} {z' : MS -> Option X} {k : X -> Option Y} (hz : ∀ m,z m = some y -> ∃ x,z' m = some x /\ k x = some y) :
    ∀ {ps : List (Bool × List Pat)} {as : List (Bool × List Atom)} {m : MS},mTup H Lc ps as m z = some y -> ∃ x,mTup H Lc ps as m z' = some x /\ k x = some y
  | [],[],m,hk => hz _ hk
  | (g,p) :: ps,(g',a) :: as,m,hk => by
    simp only [mTup] at hk ⊢
    exact gate_lift hk fun hk => mAtoms_lift (fun m hk => mTup_lift hz hk) hk
  | [],_ :: _,_,hk => by simp [mTup] at hk
  | _ :: _,[],_,hk => by simp [mTup] at hk
theorem mAV_lift {X : Type} {Lc : Option Leaves} {p : VPat} {a : AV} {m : MS} {z : MS -> Option Y} {z' : MS -> Option X} {k : X -> Option Y} (hk : mAV H Lc p a m z = some y)
    (hz : ∀ m,z m = some y -> ∃ x,z' m = some x /\ k x = some y) : ∃ x,mAV H Lc p a m z' = some x /\ k x = some y := by
  unfold mAV at hk ⊢
  split at hk
  · exact hz _ hk
  · exact mAtom_lift hk hz
  · exact mAtoms_lift hz hk
  · exact mTup_lift hz hk
  · exact none_lift hk
theorem mAVs_lift {X : Type} {Lc : Option Leaves} {z : MS -> Option Y} {z' : MS -> Option X} {k : X -> Option Y} (hz : ∀ m,z m = some y -> ∃ x,z' m = some x /\ k x = some y) :
    ∀ {ps : List VPat} {as : List AV} {m : MS},mAVs H Lc ps as m z = some y -> ∃ x,mAVs H Lc ps as m z' = some x /\ k x = some y
  | [],[],m,hk => hz _ hk
  | p :: ps,a :: as,m,hk => by
    simp only [mAVs] at hk ⊢
    exact mAV_lift hk fun m hk => mAVs_lift hz hk
  | [],_ :: _,_,hk => by simp [mAVs] at hk
  | _ :: _,[],_,hk => by simp [mAVs] at hk
theorem mBlk_lift {X : Type} {Lc : Option Leaves} {p : BPat} {v : View} {m : MS} {z : MS -> Option Y} {z' : MS -> Option X} {k : X -> Option Y} (hk : mBlk H Lc p v m z = some y)
    (hz : ∀ m,z m = some y -> ∃ x,z' m = some x /\ k x = some y) : ∃ x,mBlk H Lc p v m z' = some x /\ k x = some y := by
  unfold mBlk at hk ⊢
  split at hk
  all_goals first
    | exact none_lift hk
    | exact pushL_lift hk hz
    | exact fixL_lift hk hz
    | (split at hk
       · exact gate_lift hk fun hk => mAtoms_lift hz hk
       · exact none_lift hk)
    | (split at hk
       · exact gate_lift hk fun hk => pushL_lift hk hz
       · exact none_lift hk)
    | (split at hk
       · exact gate_lift hk fun hk => fixL_lift hk hz
       · exact none_lift hk)
    | (split at hk
       · exact gate_lift hk fun hk => pushR_lift hk hz
       · split at hk
         · exact gate_lift hk fun hk => pushR_lift hk hz
         · exact none_lift hk
       · exact none_lift hk)
    | (split at hk
       · exact gate_lift hk fun hk => fixR_lift hk hz
       · exact none_lift hk)
    | (split at hk
       · exact gate_lift hk fun hk => fixR_lift hk fun m hk => fixN_lift hk fun m hk => bindView_lift hk hz
       · exact none_lift hk)
theorem mBlks_lift {X : Type} {Lc : Option Leaves} {z : MS -> Option Y} {z' : MS -> Option X} {k : X -> Option Y} (hz : ∀ m,z m = some y -> ∃ x,z' m = some x /\ k x = some y) :
    ∀ {ps : List (Nat × BPat)} {m : MS},mBlks H Lc ps m z = some y -> ∃ x,mBlks H Lc ps m z' = some x /\ k x = some y
  | [],m,hk => hz _ hk
  | (t,p) :: ps,m,hk => by
    simp only [mBlks] at hk ⊢
    split at hk
    · exact mBlks_lift hz hk
    · split at hk
      · exact mBlk_lift hk fun m hk => mBlks_lift hz hk
      · exact none_lift hk
theorem partsIn_lift {X : Type} {z : Option Y} {z' : Option X} {k : X -> Option Y} (hz : z = some y -> ∃ x,z' = some x /\ k x = some y) :
    ∀ {vs : List View},partsIn H vs z = some y -> ∃ x,partsIn H vs z' = some x /\ k x = some y
  | [],hk => hz hk
  | v :: vs,hk => by
    cases v with
    | part id lo n =>
      simp only [partsIn] at hk ⊢
      split at hk
      · exact chk_lift hk fun hk => partsIn_lift hz hk
      · exact none_lift hk
    | _ =>
      simp only [partsIn] at hk ⊢
      exact partsIn_lift hz hk
theorem callSpec_cp {f : FuncId} {s : Spec} (hok : CallOK P f s) {N nx : Nat} {args : List AV} {k : AV -> Heap -> Nat -> Option Y} (hk : callSpec N s args H nx k = some y) :
    ∃ x : AV × Heap × Nat,callSpec N s args H nx (fun v H n => some (v,H,n)) = some x /\ k x.1 x.2.1 x.2.2 = some y := by
  unfold callSpec at hk ⊢
  refine mAVs_lift (k:=fun x : AV × Heap × Nat => k x.1 x.2.1 x.2.2) (fun m hk => mBlks_lift (fun m hk => gate_lift hk fun hk => partsIn_lift (fun hk => ?_) hk) hk) hk
  rw [hok.cps,obind_some] at hk
  obtain ⟨L,h1,h2⟩ := hk
  rw [hok.cps,h1]
  exact ⟨_,rfl,h2⟩
theorem evC_cp (hC : CfgOK C) {nx : Nat} {op : Op} {k : KC Y} (hk : evC C noInl H nx F op k = some y) :
    ∃ x : AV × Heap × Nat,evC C noInl H nx F op (fun v H n => some (v,H,n)) = some x /\ k x.1 x.2.1 x.2.2 = some y := by
  unfold evC at hk ⊢
  split at hk
  · split at hk
    · exact ⟨_,rfl,hk⟩
    · split at hk
      · exact ⟨_,rfl,hk⟩
      · exact none_lift hk
  · split at hk
    · exact ⟨_,rfl,hk⟩
    · exact gate_lift (k:=fun x : AV × Heap × Nat => k x.1 x.2.1 x.2.2) hk fun hk => ⟨_,rfl,hk⟩
  · unfold buildA at hk ⊢
    repeat' split at hk
    all_goals first
      | exact none_lift hk
      | exact gate_lift (k:=fun x : AV × Heap × Nat => k x.1 x.2.1 x.2.2) hk fun hk => ⟨_,rfl,hk⟩
      | exact gate_lift (k:=fun x : AV × Heap × Nat => k x.1 x.2.1 x.2.2) hk fun hk => gate_lift hk fun hk => ⟨_,rfl,hk⟩
  · unfold makeA at hk ⊢
    split at hk
    · split at hk
      · split at hk
        · exact gate_lift (k:=fun x : AV × Heap × Nat => k x.1 x.2.1 x.2.2) hk fun hk => chk_lift hk fun hk => ⟨_,rfl,hk⟩
        · exact none_lift hk
      · exact gate_lift (k:=fun x : AV × Heap × Nat => k x.1 x.2.1 x.2.2) hk fun hk => chk_lift hk fun hk => ⟨_,rfl,hk⟩
      · exact none_lift hk
    · exact none_lift hk
  · split at hk
    · unfold storeA at hk ⊢
      split at hk
      · split at hk
        · exact gate_lift (k:=fun x : AV × Heap × Nat => k x.1 x.2.1 x.2.2) hk fun hk => ⟨_,rfl,hk⟩
        · split at hk
          · exact gate_lift (k:=fun x : AV × Heap × Nat => k x.1 x.2.1 x.2.2) hk fun hk => chk_lift hk fun hk => ⟨_,rfl,hk⟩
          · exact gate_lift (k:=fun x : AV × Heap × Nat => k x.1 x.2.1 x.2.2) hk fun hk => chk_lift hk fun hk => ⟨_,rfl,hk⟩
          · exact gate_lift (k:=fun x : AV × Heap × Nat => k x.1 x.2.1 x.2.2) hk fun hk => chk_lift hk fun hk => ⟨_,rfl,hk⟩
          · exact none_lift hk
        · exact none_lift hk
      · split at hk
        · exact gate_lift (k:=fun x : AV × Heap × Nat => k x.1 x.2.1 x.2.2) hk fun hk => ⟨_,rfl,hk⟩
        · split at hk
          · exact gate_lift (k:=fun x : AV × Heap × Nat => k x.1 x.2.1 x.2.2) hk fun hk => ⟨_,rfl,hk⟩
          · exact none_lift hk
        · exact none_lift hk
      · exact none_lift hk
    · exact none_lift hk
  · split at hk
    · unfold evCall at hk ⊢
      split at hk
      · split at hk
        · refine gate_lift (k:=fun x : AV × Heap × Nat => k x.1 x.2.1 x.2.2) hk fun hk => ?_
          rw [obind_some] at hk
          obtain ⟨b,h1,h2⟩ := hk
          rw [h1]
          exact ⟨_,rfl,h2⟩
        split at hk
        · rename_i s hs
          exact callSpec_cp (hC.specs _ (pick_mem hs)).1 hk
        · split at hk
          · unfold evExt at hk ⊢
            split at hk
            · exact chk_lift (k:=fun x : AV × Heap × Nat => k x.1 x.2.1 x.2.2) hk fun hk => ⟨_,rfl,hk⟩
            · exact none_lift hk
          · simp [noInl] at hk
      · exact none_lift hk
    · unfold evInv at hk ⊢
      split at hk
      · split at hk
        · unfold evCall at hk ⊢
          simp only at hk ⊢
          split at hk
          · refine gate_lift (k:=fun x : AV × Heap × Nat => k x.1 x.2.1 x.2.2) hk fun hk => ?_
            rw [obind_some] at hk
            obtain ⟨b,h1,h2⟩ := hk
            rw [h1]
            exact ⟨_,rfl,h2⟩
          split at hk
          · rename_i s hs
            exact callSpec_cp (hC.specs _ (pick_mem hs)).1 hk
          · split at hk
            · unfold evExt at hk ⊢
              split at hk
              · exact chk_lift (k:=fun x : AV × Heap × Nat => k x.1 x.2.1 x.2.2) hk fun hk => ⟨_,rfl,hk⟩
              · exact none_lift hk
            · simp [noInl] at hk
        · exact none_lift hk
      · exact none_lift hk
    · split at hk
      · split at hk
        · unfold appendR at hk ⊢
          split at hk
          · split at hk
            · split at hk
              · refine gate_lift (k:=fun x : AV × Heap × Nat => k x.1 x.2.1 x.2.2) hk fun hk => ?_
                split at hk
                · exact ⟨_,rfl,hk⟩
                · split at hk
                  · exact gate_lift (k:=fun x : AV × Heap × Nat => k x.1 x.2.1 x.2.2) hk fun hk => chk_lift hk fun hk => ⟨_,rfl,hk⟩
                  · exact none_lift hk
                · exact none_lift hk
              · exact none_lift hk
            · exact none_lift hk
          · refine gate_lift (k:=fun x : AV × Heap × Nat => k x.1 x.2.1 x.2.2) hk fun hk => chk_lift hk fun hk => ?_
            split at hk
            · exact ⟨_,rfl,hk⟩
            · exact ⟨_,rfl,hk⟩
            · exact none_lift hk
          · exact none_lift hk
        · unfold appendA contA at hk ⊢
          repeat' split at hk
          all_goals first
            | exact none_lift hk
            | exact gate_lift (k:=fun x : AV × Heap × Nat => k x.1 x.2.1 x.2.2) hk fun hk => roA_lift hk fun xs l hk => capA_lift hk fun hk => ⟨_,rfl,hk⟩
            | exact gate_lift (k:=fun x : AV × Heap × Nat => k x.1 x.2.1 x.2.2) hk fun hk => none_lift hk
            | exact gate_lift (k:=fun x : AV × Heap × Nat => k x.1 x.2.1 x.2.2) hk fun hk => chk_lift hk fun hk => chk_lift hk fun hk => ⟨_,rfl,hk⟩
      · exact none_lift hk
    · split at hk
      · unfold copyA contA at hk ⊢
        repeat' split at hk
        all_goals first
          | exact none_lift hk
          | exact gate_lift (k:=fun x : AV × Heap × Nat => k x.1 x.2.1 x.2.2) hk fun hk => roA_lift hk fun xs l hk => ⟨_,rfl,hk⟩
          | exact gate_lift (k:=fun x : AV × Heap × Nat => k x.1 x.2.1 x.2.2) hk fun hk => roA_lift hk fun xs l hk => chk_lift hk fun hk => ⟨_,rfl,hk⟩
          | exact gate_lift (k:=fun x : AV × Heap × Nat => k x.1 x.2.1 x.2.2) hk fun hk => none_lift hk
      · exact none_lift hk
    · split at hk
      · unfold clearA at hk ⊢
        repeat' split at hk
        all_goals first
          | exact none_lift hk
          | exact gate_lift (k:=fun x : AV × Heap × Nat => k x.1 x.2.1 x.2.2) hk fun hk => ⟨_,rfl,hk⟩
      · exact none_lift hk
    · exact none_lift hk
  · exact none_lift hk
theorem partsA_congr {F F' : Fr} : ∀ {l : List (Nat × Operand)},(∀ q ∈ l,evOpd F q.2 = evOpd F' q.2) -> partsA F l = partsA F' l
  | [],_ => rfl
  | (i,x) :: r,h => by
    simp only [partsA]
    rw [h (i,x) (by simp),partsA_congr fun q hq => h q (by simp [hq])]
theorem argsA_congr {F F' : Fr} : ∀ {l : List Operand},(∀ x ∈ l,evOpd F x = evOpd F' x) -> argsA F l = argsA F' l
  | [],_ => rfl
  | x :: r,h => by
    simp only [argsA]
    rw [h x (by simp),argsA_congr fun q hq => h q (by simp [hq])]
theorem parts_ops {F F' : Fr} {ps : Array (Nat × Operand)} (h : ∀ x ∈ (ps.toList.map (·.2)).toArray,evOpd F x = evOpd F' x) : partsA F ps.toList = partsA F' ps.toList :=
  partsA_congr fun q hq => h q.2 (by simpa using ⟨q.1,by simpa using hq⟩)
theorem evR_congr {F F' : Fr} {op : Op} {k : AV -> Option Y} (h : ∀ x ∈ op.operands,evOpd F x = evOpd F' x) : evR P RT H F op k = evR P RT H F' op k := by
  cases op with
  | move x => simp only [evR,h x (by simp [Op.operands])]
  | assign x => simp only [evR,h x (by simp [Op.operands])]
  | pick c a b => simp only [evR,h c (by simp [Op.operands]),h a (by simp [Op.operands]),h b (by simp [Op.operands])]
  | load t x => simp only [evR,h x (by simp [Op.operands])]
  | nilCheck x => simp only [evR,h x (by simp [Op.operands])]
  | binOp op t x z t' => simp only [evR,h x (by simp [Op.operands]),h z (by simp [Op.operands])]
  | unOp op t x => simp only [evR,h x (by simp [Op.operands])]
  | convert s d x => simp only [evR,h x (by simp [Op.operands])]
  | makeInterface t x => simp only [evR,h x (by simp [Op.operands])]
  | makeFunc fn first cap =>
    have : argsA F cap.toList = argsA F' cap.toList := argsA_congr fun x hx => h x (by simp [Op.operands]; right; simpa using hx)
    cases fn <;> simp only [evR,this]
  | fieldAddr t x f => simp only [evR,h x (by simp [Op.operands])]
  | field t x f => simp only [evR,h x (by simp [Op.operands])]
  | indexAddr t x ix => simp only [evR,h x (by simp [Op.operands]),h ix (by simp [Op.operands])]
  | index t x ix => simp only [evR,h x (by simp [Op.operands]),h ix (by simp [Op.operands])]
  | typeAssert x t t' ok => simp only [evR,h x (by simp [Op.operands])]
  | extract x i => simp only [evR,h x (by simp [Op.operands])]
  | build t ps => simp only [evR,parts_ops h]
  | slice t x lo hi mx =>
    have h1 : evOpd F x = evOpd F' x := h x (by simp [Op.operands])
    have h2 : optA F lo = optA F' lo := by
      cases lo with
      | none => rfl
      | some z => simp only [optA,h z (by simp [Op.operands])]
    have h3 : optA F hi = optA F' hi := by
      cases hi with
      | none => rfl
      | some z => simp only [optA,h z (by simp [Op.operands])]
    simp only [evR,h1,h2,h3]
  | call c =>
    have h1 : argsA F c.args.toList = argsA F' c.args.toList := argsA_congr fun x hx => h x (by simp [Op.operands,Call.operands]; right; simpa using hx)
    simp only [evR,h1]
  | _ => rfl
theorem evLit_congr {F F' : Fr} {op : Op} {k : AV -> Option Y} (h : ∀ x ∈ op.operands,evOpd F x = evOpd F' x) : evLit P F op k = evLit P F' op k := by
  cases op with
  | buildSlice t n ps => simp only [evLit,parts_ops h]
  | _ => rfl
theorem evC_congr {F F' : Fr} {inl : Inl} {nx : Nat} {op : Op} {k : KC Y} (h : ∀ x ∈ op.operands,evOpd F x = evOpd F' x) : evC C inl H nx F op k = evC C inl H nx F' op k := by
  cases op with
  | box e x => simp only [evC,h x (by simp [Op.operands])]
  | buildSlice t n ps => simp only [evC,parts_ops h]
  | makeSlice t l c => simp only [evC,h l (by simp [Op.operands]),h c (by simp [Op.operands])]
  | store t x z => simp only [evC,h x (by simp [Op.operands]),h z (by simp [Op.operands])]
  | call c =>
    have h1 : argsA F c.args.toList = argsA F' c.args.toList := argsA_congr fun x hx => h x (by simp [Op.operands,Call.operands]; right; simpa using hx)
    simp only [evC,h1]
    split
    · rename_i f hf
      rw [h f (by simp [Op.operands,Call.operands,hf])]
    · rename_i x n hf
      rw [h x (by simp [Op.operands,Call.operands,hf])]
    · rfl
    · rfl
    · rfl
    · rfl
  | _ => rfl
theorem fixedA_get {x : AV} (h : fixedA x = true) : (∃ k xs,x = .at (.roi k xs)) \/ (∃ t,x = .at (.ror t)) \/ (∃ T xss,x = .at (.rro T xss)) \/ (∃ cs,x = .at (.rop cs)) \/ x = .at .nils := by
  unfold fixedA at h
  split at h
  · exact Or.inl ⟨_,_,rfl⟩
  · exact Or.inr (Or.inl ⟨_,rfl⟩)
  · exact Or.inr (Or.inr (Or.inl ⟨_,_,rfl⟩))
  · exact Or.inr (Or.inr (Or.inr (Or.inl ⟨_,rfl⟩)))
  · exact Or.inr (Or.inr (Or.inr (Or.inr rfl)))
  · simp at h
theorem evR_blind {H' : Heap} {o : Oper} {k : AV -> Option Y} (h : looks F o = false) : evR P RT H F o.op k = evR P RT H' F o.op k := by
  unfold looks at h
  split at h
  · rename_i t x ho
    simp only [ho,evR]
    rcases fixedA_get (x:=evOpd F x) (by simpa using h) with ⟨kd,xs,hx⟩ | ⟨tg,hx⟩ | ⟨T,xss,hx⟩ | ⟨cs,hx⟩ | hx <;> simp only [hx,evLoad]
  · rename_i t x ix ho
    simp only [ho,evR]
    rcases fixedA_get (x:=evOpd F x) (by simpa using h) with ⟨kd,xs,hx⟩ | ⟨tg,hx⟩ | ⟨T,xss,hx⟩ | ⟨cs,hx⟩ | hx <;> (simp only [hx]; unfold evIndexAddr; cases P.underlying t with
      | none => rfl
      | some d => cases d <;> first | rfl | (cases evOpd F ix with
        | «at» z => cases z <;> rfl
        | _ => rfl))
  · rename_i t x lo hi mx ho
    simp only [ho,evR]
    rcases fixedA_get (x:=evOpd F x) (by simpa using h) with ⟨kd,xs,hx⟩ | ⟨tg,hx⟩ | ⟨T,xss,hx⟩ | ⟨cs,hx⟩ | hx <;> (simp only [hx]; unfold evSlice; cases P.underlying t with
      | none => rfl
      | some d => cases d <;> first | rfl | (cases mx.isSome <;> rfl))
  · rename_i c ho
    simp only [ho,evR]
    split at h
    · rename_i hc
      simp only [hc]
      split at h
      · rename_i x hx
        split
        · rename_i x' t heq _
          rw [hx] at heq
          simp only [List.cons.injEq,and_true] at heq
          subst heq
          rcases fixedA_get (x:=x) (by simpa using h) with ⟨kd,xs,hx⟩ | ⟨tg,hx⟩ | ⟨T,xss,hx⟩ | ⟨cs,hx⟩ | hx <;> (simp only [hx]; unfold evLen; cases P.underlying t with
            | none => rfl
            | some d => cases d <;> rfl)
        · rfl
      · simp at h
    · rename_i hne
      split
      · rfl
      · rfl
      · rename_i hc; exact absurd hc hne
      · rfl
  · rename_i h1 h2 h3 h4
    cases ho : o.op <;> first | exact absurd ho (h1 _ _) | exact absurd ho (h2 _ _ _) | exact absurd ho (h3 _ _ _ _ _) | exact absurd ho (h4 _) | rfl | (rename_i fn fs cs; cases fn <;> rfl)
noncomputable def only (l : Array Operand) (F : Fr) : Fr := fun t => open Classical in if Operand.tmp t ∈ l then F t else .at .unk
theorem only_opd {l : Array Operand} {F : Fr} {x : Operand} (hx : x ∈ l) : evOpd (only l F) x = evOpd F x := by
  cases x with
  | tmp t => simp only [evOpd,only]; rw [if_pos hx]
  | _ => rfl
theorem only_rf {l : Array Operand} (h : ∀ t,Operand.tmp t ∈ l -> RV RT E (F t) (a.tmps.getD t undef)) : RF RT E (only l F) a := by
  intro t
  simp only [only]
  split
  · rename_i ht; exact h t ht
  · exact R.unk _
end Go.Eng
/-
 The engine, part twelve (b): a region in whatever order.
 Conditions: none; nothing is claimed of the program here.
-/
namespace Go.Eng
variable {RT : RoTab} {E : Env} {F : Fr} {a : Act} {H : Heap} {fp : Fp} {w : World} {P : Program} {Y : Type} {y : Y} {C : Cfg} {K : FCfg} {ops : Array Oper}
theorem binds_eq (e : Edge) : Region.binds .any e = bindsAny e.ground := by
 unfold Region.binds bindsAny
 cases e.ground <;> rfl
theorem bit_eq (n i : Nat) : bit n i = Nat.testBit n i := by
 have h : bit n i = Nat.beq ((n >>> i) &&& 1) 1 := rfl
 rw [h]
 unfold Nat.testBit
 rw [Nat.and_comm 1,Nat.and_one_is_mod]
 rcases Nat.mod_two_eq_zero_or_one (n >>> i) with h | h <;> rw [h] <;> rfl
theorem edgesOf_bit {acc : List Nat} {m : Nat} : ∀ {l : List Edge},bit (edgesOf acc l) m = true -> ∃ e ∈ l,bindsAny e.ground = true /\ (e.on = m \/ bit (nthD 0 acc e.on) m = true)
 | [],h => by simp [edgesOf,bit_eq] at h
 | e :: r,h => by
  simp only [edgesOf] at h
  split at h
  ·rename_i hb
   rw [bit_eq] at h
   simp only [Nat.lor_eq,Nat.testBit_or,Bool.or_eq_true] at h
   rcases h with (h | h) | h
   ·exact ⟨e,by simp,hb,Or.inr (by rw [bit_eq]; exact h)⟩
   ·refine ⟨e,by simp,hb,Or.inl ?_⟩
    have h' : Nat.testBit (1 <<< e.on) m = true := h
    rw [Nat.shiftLeft_eq,Nat.one_mul,Nat.testBit_two_pow] at h'
    simpa using h'
   ·obtain ⟨e',he',h'⟩ := edgesOf_bit (l:=r) (by rw [bit_eq]; exact h)
    exact ⟨e',by simp [he'],h'⟩
  ·obtain ⟨e',he',h'⟩ := edgesOf_bit (l:=r) h
   exact ⟨e',by simp [he'],h'⟩
theorem ancsOf_get : ∀ {os : List Oper} {acc : List Nat},(ancsOf acc os).take acc.length = acc /\ (ancsOf acc os).length = acc.length + os.length /\
  ∀ j o,os[j]? = some o -> (ancsOf acc os)[acc.length + j]? = some (edgesOf ((ancsOf acc os).take (acc.length + j)) o.after.toList)
 | [],acc => ⟨by simp [ancsOf],by simp [ancsOf],fun j o h => by simp at h⟩
 | o :: os,acc => by
  obtain ⟨h1,h2,h3⟩ := ancsOf_get (os:=os) (acc:=snoc acc (edgesOf acc o.after.toList))
  simp only [ancsOf]
  rw [snoc_eq] at h1 h2 h3 ⊢
  simp only [List.length_append,List.length_singleton] at h1 h2 h3
  have hacc : (ancsOf (acc ++ [edgesOf acc o.after.toList]) os).take acc.length = acc := by
   have := congrArg (List.take acc.length) h1
   rw [List.take_take,Nat.min_eq_left (by omega)] at this
   simpa using this
  refine ⟨hacc,by simp only [List.length_cons]; omega,fun j o' hj => ?_⟩
  cases j with
  | zero =>
   simp at hj
   subst hj
   have hh : (ancsOf (acc ++ [edgesOf acc o.after.toList]) os)[acc.length]? = some (edgesOf acc o.after.toList) := by
    have := congrArg (fun l => l[acc.length]?) h1
    simp only [List.getElem?_take,if_pos (Nat.lt_succ_self acc.length)] at this
    rw [this]; simp
   rw [Nat.add_zero,hh,hacc]
  | succ j =>
   have := h3 j o' (by simpa using hj)
   rw [show acc.length + 1 + j = acc.length + (j + 1) by omega] at this
   exact this
theorem nthD_take {l : List Nat} {n i : Nat} (h : i < n) : nthD 0 (l.take n) i = nthD 0 l i := by
 rw [nthD_eq,nthD_eq,List.getD_eq_getElem?_getD,List.getD_eq_getElem?_getD,List.getElem?_take_of_lt h]
theorem backEdges_get : ∀ {os : List Oper} {i j : Nat} {o : Oper} {e : Edge},backEdges i os = true -> os[j]? = some o -> e ∈ o.after -> bindsAny e.ground = true -> e.on < i + j
 | [],i,j,o,e,_,h,_,_ => by simp at h
 | o' :: os,i,0,o,e,h,hj,he,hb => by
  simp at hj
  subst hj
  simp only [backEdges,Bool.and_eq_true] at h
  have key : ∀ l : List Edge,backEdges.go i l = true -> e ∈ l -> e.on < i := by
   intro l
   induction l with
   | nil => intro _ h; simp at h
   | cons e' r ih =>
    intro h hm
    simp only [backEdges.go,Bool.and_eq_true,Bool.or_eq_true,Bool.not_eq_true'] at h
    rcases List.mem_cons.1 hm with rfl | hm
    ·rcases h.1 with h' | h'
     ·rw [hb] at h'; simp at h'
     ·exact blt_iff.1 h'
    ·exact ih h.2 hm
  have := key _ h.1 (by simpa using he)
  omega
 | o' :: os,i,j + 1,o,e,h,hj,he,hb => by
  simp only [backEdges,Bool.and_eq_true] at h
  have := backEdges_get (os:=os) h.2 (by simpa using hj) he hb
  omega
theorem rowOk_get {all : List Oper} {anc : Nat} {b : Oper} : ∀ {l : List Oper} {i j : Nat} {o : Oper},rowOk all anc b i l = true -> l[j]? = some o -> pairOk all (bit anc (i + j)) o b = true
 | [],i,j,o,_,h => by simp at h
 | o' :: l,i,0,o,h,hj => by
  simp at hj
  subst hj
  simp only [rowOk,Bool.and_eq_true] at h
  exact h.1
 | o' :: l,i,j + 1,o,h,hj => by
  simp only [rowOk,Bool.and_eq_true] at h
  have := rowOk_get h.2 (by simpa using hj : l[j]? = some o)
  rwa [show i + 1 + j = i + (j + 1) by omega] at this
theorem pairsOk_get {all : List Oper} : ∀ {os : List Oper} {ancs : List Nat} {done : List Oper},pairsOk all ancs done os = true -> ancs.length = os.length ->
  ∀ (m i : Nat) (b x : Oper) (anc : Nat),os[m]? = some b -> ancs[m]? = some anc -> (done ++ os)[i]? = some x -> i < done.length + m -> pairOk all (bit anc i) x b = true
 | [],_,_,_,_,m,i,b,x,anc,h,_,_,_ => by simp at h
 | o :: os,[],_,_,hl,_,_,_,_,_,_,_,_,_ => by simp at hl
 | o :: os,anc0 :: ancs,done,h,hl,m,i,b,x,anc,hb,ha,hx,hi => by
  simp only [pairsOk,Bool.and_eq_true] at h
  cases m with
  | zero =>
   simp at hb ha
   subst hb
   subst ha
   rw [List.getElem?_append_left (by omega)] at hx
   have := rowOk_get h.1 hx
   rwa [Nat.zero_add] at this
  | succ m =>
   have h2 := h.2
   rw [snoc_eq] at h2
   refine pairsOk_get h2 (by simpa using hl) m i b x anc (by simpa using hb) (by simpa using ha) (by simpa using hx) ?_
   simp only [List.length_append,List.length_singleton]
   omega
theorem chainRow_get {anc : Nat} : ∀ {l : List Oper} {i j : Nat} {o : Oper},chainRow K anc i l = true -> l[j]? = some o -> isC K o = true -> bit anc (i + j) = true
 | [],i,j,o,_,h,_ => by simp at h
 | o' :: l,i,0,o,h,hj,hc => by
  simp at hj
  subst hj
  simp only [chainRow,Bool.and_eq_true,Bool.or_eq_true,Bool.not_eq_true'] at h
  exact h.1.resolve_left (by rw [hc]; simp)
 | o' :: l,i,j + 1,o,h,hj,hc => by
  simp only [chainRow,Bool.and_eq_true] at h
  have := chainRow_get h.2 (by simpa using hj : l[j]? = some o) hc
  rwa [show i + 1 + j = i + (j + 1) by omega] at this
theorem chainOk_get : ∀ {os : List Oper} {ancs : List Nat} {done : List Oper},chainOk K ancs done os = true -> ancs.length = os.length ->
  ∀ (m i : Nat) (b x : Oper) (anc : Nat),os[m]? = some b -> ancs[m]? = some anc -> (done ++ os)[i]? = some x -> i < done.length + m -> isC K b = true -> isC K x = true -> bit anc i = true
 | [],_,_,_,_,m,i,b,x,anc,h,_,_,_,_,_ => by simp at h
 | o :: os,[],_,_,hl,_,_,_,_,_,_,_,_,_,_,_ => by simp at hl
 | o :: os,anc0 :: ancs,done,h,hl,m,i,b,x,anc,hb,ha,hx,hi,hcb,hcx => by
  simp only [chainOk,Bool.and_eq_true,Bool.or_eq_true,Bool.not_eq_true'] at h
  cases m with
  | zero =>
   simp at hb ha
   subst hb
   subst ha
   rw [List.getElem?_append_left (by omega)] at hx
   have := chainRow_get (h.1.resolve_left (by rw [hcb]; simp)) hx hcx
   rwa [Nat.zero_add] at this
  | succ m =>
   have h2 := h.2
   rw [snoc_eq] at h2
   refine chainOk_get h2 (by simpa using hl) m i b x anc (by simpa using hb) (by simpa using ha) (by simpa using hx) ?_ hcb hcx
   simp only [List.length_append,List.length_singleton]
   omega
theorem fits_of {ancs : List Nat} {i : Nat} : ∀ {chs : List Nat} {τ : Nat},(∀ t c,chs[t]? = some c -> (t < τ -> bit (nthD 0 ancs c) i = false) /\ (τ <= t -> bit (nthD 0 ancs i) c = false)) -> fits ancs i τ chs = true
 | [],τ,_ => by cases τ <;> rfl
 | c :: cs,0,h => by
  simp only [fits,Bool.and_eq_true,Bool.not_eq_true']
  exact ⟨(h 0 c rfl).2 (Nat.le_refl _),fits_of fun t c' hc => ⟨fun h => by omega,fun _ => (h (t + 1) c' (by simpa using hc)).2 (by omega)⟩⟩
 | c :: cs,τ + 1,h => by
  simp only [fits,Bool.and_eq_true,Bool.not_eq_true']
  exact ⟨(h 0 c rfl).1 (by omega),fits_of fun t c' hc => ⟨fun ht => (h (t + 1) c' (by simpa using hc)).1 (by omega),fun ht => (h (t + 1) c' (by simpa using hc)).2 (by omega)⟩⟩
theorem eqB_eq {a b : Bool} (h : eqB a b = true) : a = b := by cases a <;> cases b <;> simp [eqB] at h ⊢
theorem beq_eq' {a b : Nat} (h : Nat.beq a b = true) : a = b := Nat.eq_of_beq_eq_true h
theorem eqAtom_eq {x z : Atom} {k : Option Y} (h : eqAtom x z k = some y) : x = z /\ k = some y := by
 unfold eqAtom at h
 split at h
 ·rw [gate_some,chkI_some,eqK_iff] at h; obtain ⟨rfl,rfl,h⟩ := h; exact ⟨rfl,h⟩
 ·rw [chkB_some] at h; obtain ⟨rfl,h⟩ := h; exact ⟨rfl,h⟩
 ·exact ⟨rfl,h⟩
 ·exact ⟨rfl,h⟩
 ·rw [gate_some,chkN_some] at h; obtain ⟨h1,rfl,h⟩ := h; rw [beq_eq' h1]; exact ⟨rfl,h⟩
 ·rw [gate_some,chkN_some] at h; obtain ⟨h1,rfl,h⟩ := h; simp only [Bool.and_eq_true] at h1; rw [beq_eq' h1.1,beq_eq' h1.2]; exact ⟨rfl,h⟩
 ·rw [gate_some] at h; obtain ⟨h1,h⟩ := h; simp only [Bool.and_eq_true] at h1; rw [beq_eq' h1.1,eqB_eq h1.2]; exact ⟨rfl,h⟩
 ·rw [gate_some,chkN_some,chkN_some] at h; obtain ⟨h1,rfl,rfl,h⟩ := h; rw [beq_eq' h1]; exact ⟨rfl,h⟩
 ·rw [gate_some,chkL_some,eqK_iff] at h; obtain ⟨rfl,rfl,h⟩ := h; exact ⟨rfl,h⟩
 ·rw [gate_some] at h; obtain ⟨h1,h⟩ := h; rw [beq_eq' h1]; exact ⟨rfl,h⟩
 ·rw [gate_some,chkR_some,eqT_iff] at h; obtain ⟨rfl,rfl,h⟩ := h; exact ⟨rfl,h⟩
 ·simp at h
theorem eqAtoms_eq : ∀ {xs zs : List Atom} {k : Option Y},eqAtoms xs zs k = some y -> xs = zs /\ k = some y
 | [],[],k,h => ⟨rfl,h⟩
 | x :: xs,z :: zs,k,h => by
  simp only [eqAtoms] at h
  obtain ⟨rfl,h1⟩ := eqAtom_eq h
  obtain ⟨rfl,h2⟩ := eqAtoms_eq h1
  exact ⟨rfl,h2⟩
 | [],_ :: _,_,h => by simp [eqAtoms] at h
 | _ :: _,[],_,h => by simp [eqAtoms] at h
theorem eqAV_eq {x z : AV} {k : Option Y} (h : eqAV x z k = some y) : x = z /\ k = some y := by
 unfold eqAV at h
 split at h
 ·obtain ⟨rfl,h1⟩ := eqAtom_eq h; exact ⟨rfl,h1⟩
 ·obtain ⟨rfl,h1⟩ := eqAtoms_eq h; exact ⟨rfl,h1⟩
 ·simp at h
theorem checkRd_get {ancs chs : List Nat} {rd : Rd} {k : Option Y} : ∀ {hs : List Heap} {τ : Nat},checkRd C ancs chs rd τ hs k = some y ->
  k = some y /\ ∀ t H,hs[t]? = some H -> fits ancs rd.i (τ + t) chs = true -> τ + t ≠ rd.τ -> evR C.P C.RT H rd.F rd.op some = some rd.v
 | [],τ,h => ⟨h,fun t H ht => by simp at ht⟩
 | H :: hs,τ,h => by
  have step : ∀ {k' : Option Y},(k' = checkRd C ancs chs rd (τ + 1) hs k) -> k' = some y -> (fits ancs rd.i τ chs = true -> τ ≠ rd.τ -> evR C.P C.RT H rd.F rd.op some = some rd.v) ->
    k = some y /\ ∀ t H',(H :: hs)[t]? = some H' -> fits ancs rd.i (τ + t) chs = true -> τ + t ≠ rd.τ -> evR C.P C.RT H' rd.F rd.op some = some rd.v := by
   rintro k' rfl hk' h0
   obtain ⟨h1,h2⟩ := checkRd_get hk'
   refine ⟨h1,fun t H' ht hf hne => ?_⟩
   cases t with
   | zero => simp at ht; subst ht; exact h0 hf hne
   | succ t =>
    refine h2 t H' (by simpa using ht) ?_ ?_
    ·rwa [show τ + 1 + t = τ + (t + 1) by omega]
    ·omega
  simp only [checkRd] at h
  split at h
  ·obtain ⟨v,h1,h2⟩ := evR_cp Y _ y h
   obtain ⟨rfl,h3⟩ := eqAV_eq h2
   exact step rfl h3 fun _ _ => h1
  ·rename_i hg
   refine step rfl h fun hf hne => ?_
   exfalso
   have : Nat.beq τ rd.τ = false := by
    cases hb : Nat.beq τ rd.τ with
    | false => rfl
    | true => exact absurd (beq_eq' hb) hne
   rw [hf,this] at hg
   simp at hg
theorem checkRds_get {ancs chs : List Nat} {hs : List Heap} {k : Option Y} : ∀ {rds : List Rd},checkRds C ancs chs hs rds k = some y ->
  k = some y /\ ∀ rd ∈ rds,∀ t H,hs[t]? = some H -> fits ancs rd.i t chs = true -> t ≠ rd.τ -> evR C.P C.RT H rd.F rd.op some = some rd.v
 | [],h => ⟨h,fun rd hr => by simp at hr⟩
 | rd :: rds,h => by
  simp only [checkRds] at h
  obtain ⟨h1,h2⟩ := checkRd_get h
  obtain ⟨h3,h4⟩ := checkRds_get h1
  refine ⟨h3,fun rd' hr => ?_⟩
  rcases List.mem_cons.1 hr with rfl | hr
  ·intro t H ht hf hne
   exact h2 t H ht (by rwa [Nat.zero_add]) (by rwa [Nat.zero_add])
  ·exact h4 rd' hr
end Go.Eng
/-
 The engine, part twelve (c): what happens in the text's order, written down.
 Conditions: none; nothing is claimed of the program here.
-/
namespace Go.Eng
variable {RT : RoTab} {E : Env} {F : Fr} {a : Act} {H : Heap} {fp : Fp} {w : World} {P : Program} {Y : Type} {y : Y} {C : Cfg} {K : FCfg} {ops : Array Oper}
structure Rec where
 wd : Bool
 F : Fr
 H : Heap
 nx : Nat
 τ : Nat
 v : AV
def GuardRel (ops : Array Oper) (o : Oper) (RT : RoTab) (E : Env) (F : Fr) (a : Act) : Prop :=
 ∀ g want d,o.guard = some (g,want) -> dstAt ops.toList g = some d -> RV RT E (F d) (a.tmps.getD d undef)
def WantIs (ops : Array Oper) (o : Oper) (F : Fr) (b : Bool) : Prop :=
 ∀ (RT : RoTab) (E : Env) (a : Act),GuardRel ops o RT E F a -> Region.wanted o (yielded ops a.tmps) = b
theorem evGuard_all {o : Oper} {yes no : Fr -> Option Y} (hk : evGuard ops.toList o F yes no = some y) :
  (WantIs ops o F true /\ yes F = some y) \/ (WantIs ops o F false /\ no F = some y) := by
 unfold evGuard at hk
 split at hk
 ·rename_i hg
  exact Or.inl ⟨fun _ _ _ _ => by simp [Region.wanted,hg],hk⟩
 ·rename_i g want hg
  split at hk
  ·simp at hk
  ·rename_i d hd
   split at hk
   ·rename_i b hb
    have hy : ∀ RT E a,GuardRel ops o RT E F a -> yielded ops a.tmps g = some b := by
     intro RT E a hF
     have hv := hF g want d hg hd
     rw [hb] at hv
     have hv' : R RT E (.bool b) (a.tmps.getD d undef) := hv
     have hv2 := getD_bool (R.bool_inv hv')
     unfold dstAt at hd
     split at hd
     ·rename_i og hog
      rw [nth_eq] at hog
      have : ops[g]? = some og := by simpa using hog
      simp [yielded,this,hd,hv2]
     ·simp at hd
    cases b with
    | true =>
     simp only [br] at hk
     rw [putF_id F d hb] at hk
     cases want with
     | true => exact Or.inl ⟨fun RT E a hF => by simp [Region.wanted,hg,hy RT E a hF],hk⟩
     | false => exact Or.inr ⟨fun RT E a hF => by simp [Region.wanted,hg,hy RT E a hF],hk⟩
    | false =>
     simp only [br] at hk
     rw [putF_id F d hb] at hk
     cases want with
     | true => exact Or.inr ⟨fun RT E a hF => by simp [Region.wanted,hg,hy RT E a hF],hk⟩
     | false => exact Or.inl ⟨fun RT E a hF => by simp [Region.wanted,hg,hy RT E a hF],hk⟩
   ·rename_i hb
    have hy : ∀ RT E a,GuardRel ops o RT E F a -> yielded ops a.tmps g = none := by
     intro RT E a hF
     have hv := hF g want d hg hd
     rw [hb] at hv
     have hv' : R RT E .und (a.tmps.getD d undef) := hv
     exact yielded_und hd (R.und_inv hv')
    exact Or.inr ⟨fun RT E a hF => by simp [Region.wanted,hg,hy RT E a hF],hk⟩
   ·simp at hk
def RecOK (C : Cfg) (K : FCfg) (ops : Array Oper) (o : Oper) (r r' : Rec) : Prop :=
 (r.wd = false /\ WantIs ops o r.F false /\ r.v = .at .und /\ r'.F = putO r.F o.dst r.v /\ r'.H = r.H /\ r'.nx = r.nx /\ r'.τ = r.τ) \/
 (r.wd = true /\ WantIs ops o r.F true /\ r'.F = putO r.F o.dst r.v /\
  ((isC K o = true /\ evC C noInl r.H r.nx r.F o.op (fun v H n => some (v,H,n)) = some (r.v,r'.H,r'.nx) /\ r'.τ = r.τ + 1) \/
   (isC K o = false /\ isLit K o = true /\ evLit C.P r.F o.op some = some r.v /\ r'.H = r.H /\ r'.nx = r.nx /\ r'.τ = r.τ) \/
   (isC K o = false /\ isLit K o = false /\ evR C.P C.RT r.H r.F o.op some = some r.v /\ r'.H = r.H /\ r'.nx = r.nx /\ r'.τ = r.τ)))
structure TraceOK (C : Cfg) (K : FCfg) (ops : Array Oper) (ancs : List Nat) (k : KS Y) (y : Y) (i m : Nat) (F : Fr) (H : Heap) (nx : Nat) (hs : List Heap) (chs : List Nat) (rds : List Rd)
  (r : Nat -> Rec) (hsF : List Heap) (chsF : List Nat) (rdsF : List Rd) : Prop where
 start : (r i).F = F /\ (r i).H = H /\ (r i).nx = nx /\ (r i).τ = chs.length
 step : ∀ j o,i <= j -> j < i + m -> ops[j]? = some o -> RecOK C K ops o (r j) (r (j + 1))
 heap : ∀ j,i <= j -> j <= i + m -> hsF[(r j).τ]? = some (r j).H
 pre : ∃ t,hsF = hs ++ t
 cpre : ∃ t,chsF = chs ++ t
 rpre : ∀ rd,rd ∈ rds -> rd ∈ rdsF
 last : (r (i + m)).τ = chsF.length
 ch : ∀ j o,i <= j -> j < i + m -> ops[j]? = some o -> isC K o = true -> (r j).wd = true -> chsF[(r j).τ]? = some j
 chI : ∀ t c,chs.length <= t -> chsF[t]? = some c -> i <= c /\ c < i + m /\ (r c).τ = t /\ ∃ o,ops[c]? = some o /\ isC K o = true /\ (r c).wd = true
 rd : ∀ j o,i <= j -> j < i + m -> ops[j]? = some o -> isC K o = false -> isLit K o = false -> looks (r j).F o = true -> (r j).wd = true -> (⟨j,o.op,(r j).F,(r j).v,(r j).τ⟩ : Rd) ∈ rdsF
 fin : checkRds C ancs chsF hsF rdsF (k (r (i + m)).F (r (i + m)).H (r (i + m)).nx) = some y
theorem TraceOK.cons {ancs : List Nat} {k : KS Y} {i m : Nat} {o : Oper} {F' : Fr} {H' : Heap} {nx nx' : Nat} {hs t1 : List Heap} {chs t2 : List Nat} {rds rds' : List Rd} {r : Nat -> Rec} {hsF : List Heap} {chsF : List Nat} {rdsF : List Rd} {wd : Bool} {v : AV}
  (ho : ops[i]? = some o) (h : TraceOK C K ops ancs k y (i + 1) m F' H' nx' (hs ++ t1) (chs ++ t2) rds' r hsF chsF rdsF)
  (hstep : RecOK C K ops o ⟨wd,F,H,nx,chs.length,v⟩ (r (i + 1))) (hhs : hs[chs.length]? = some H) (hrd : ∀ rd,rd ∈ rds -> rd ∈ rds')
  (ht2 : (isC K o = true /\ wd = true /\ t2 = [i]) \/ ((isC K o = false \/ wd = false) /\ t2 = []))
  (hrd2 : isC K o = false -> isLit K o = false -> looks F o = true -> wd = true -> (⟨i,o.op,F,v,chs.length⟩ : Rd) ∈ rds') :
  TraceOK C K ops ancs k y i (m + 1) F H nx hs chs rds (fun j => if j = i then ⟨wd,F,H,nx,chs.length,v⟩ else r j) hsF chsF rdsF := by
 have hne : ∀ {j},i + 1 <= j -> j ≠ i := fun {j} h => by omega
 have hpre : ∃ t,hsF = hs ++ t := by
  obtain ⟨t,ht⟩ := h.pre
  exact ⟨t1 ++ t,by rw [ht,List.append_assoc]⟩
 have hcpre : ∃ t,chsF = chs ++ t := by
  obtain ⟨t,ht⟩ := h.cpre
  exact ⟨t2 ++ t,by rw [ht,List.append_assoc]⟩
 have hlast : i + (m + 1) = i + 1 + m := by omega
 refine ⟨by simp,fun j o' hj hjm ho' => ?_,fun j hj hjm => ?_,hpre,hcpre,fun rd hr => h.rpre rd (hrd rd hr),?_,fun j o' hj hjm ho' hc hw => ?_,fun t c ht hc => ?_,fun j o' hj hjm ho' hc hl hk hw => ?_,?_⟩
 ·by_cases he : j = i
  ·subst he
   rw [ho] at ho'
   obtain rfl := Option.some.inj ho'
   simp only [if_true,if_neg (show j + 1 ≠ j by omega)]
   exact hstep
  ·simp only [if_neg he,if_neg (show j + 1 ≠ i by omega)]
   exact h.step j o' (by omega) (by omega) ho'
 ·by_cases he : j = i
  ·subst he
   simp only [if_true]
   obtain ⟨t,ht⟩ := hpre
   rw [ht,List.getElem?_append_left]
   ·exact hhs
   ·rcases Nat.lt_or_ge chs.length hs.length with h' | h'
    ·exact h'
    ·rw [List.getElem?_eq_none h'] at hhs; simp at hhs
  ·simp only [if_neg he]
   exact h.heap j (by omega) (by omega)
 ·rw [if_neg (show i + (m + 1) ≠ i by omega),hlast]
  exact h.last
 ·by_cases he : j = i
  ·subst he
   rw [ho] at ho'
   obtain rfl := Option.some.inj ho'
   simp only [if_true] at hw ⊢
   rcases ht2 with ⟨_,_,rfl⟩ | ⟨h1 | h1,_⟩
   ·obtain ⟨t,ht⟩ := h.cpre
    rw [ht]
    simp
   ·rw [hc] at h1; simp at h1
   ·rw [hw] at h1; simp at h1
  ·simp only [if_neg he] at hw ⊢
   exact h.ch j o' (by omega) (by omega) ho' hc hw
 ·by_cases he : chs.length + t2.length <= t
  ·obtain ⟨h1,hlt,h2,h3⟩ := h.chI t c (by simpa using he) hc
   refine ⟨by omega,by omega,?_,?_⟩
   ·rw [if_neg (hne h1)]; exact h2
   ·simp only [if_neg (hne h1)]; exact h3
  ·rcases ht2 with ⟨h1,h2,rfl⟩ | ⟨_,rfl⟩
   ·simp only [List.length_singleton] at he
    have ht' : t = chs.length := by omega
    subst ht'
    obtain ⟨t',ht'⟩ := h.cpre
    rw [ht'] at hc
    simp at hc
    subst hc
    exact ⟨Nat.le_refl _,by omega,by simp,o,ho,h1,by simp [h2]⟩
   ·simp only [List.length_nil] at he; omega
 ·by_cases he : j = i
  ·subst he
   rw [ho] at ho'
   obtain rfl := Option.some.inj ho'
   simp only [if_true] at hk hw ⊢
   exact h.rpre _ (hrd2 hc hl hk hw)
  ·simp only [if_neg he] at hk hw ⊢
   exact h.rd j o' (by omega) (by omega) ho' hc hl hk hw
 ·rw [if_neg (show i + (m + 1) ≠ i by omega),hlast]
  exact h.fin
theorem len_eq' {α : Type} : ∀ l : List α,len l = l.length
 | [] => rfl
 | _ :: r => by simp [len,len_eq' r]
theorem evOpsA_trace (hC : CfgOK C) {ancs : List Nat} {k : KS Y} : ∀ (os : List Oper) (i : Nat) (F : Fr) (H : Heap) (nx : Nat) (hs : List Heap) (chs : List Nat) (rds : List Rd),
  evOpsA C K noInl ops.toList ancs i os F H nx hs chs rds k = some y -> hs[chs.length]? = some H -> hs.length = chs.length + 1 -> (∀ j,j < os.length -> os[j]? = ops[i + j]?) ->
  ∃ r hsF chsF rdsF,TraceOK C K ops ancs k y i os.length F H nx hs chs rds r hsF chsF rdsF
 | [],i,F,H,nx,hs,chs,rds,hk,hh,hl,ho => by
  simp only [evOpsA] at hk
  refine ⟨fun _ => ⟨false,F,H,nx,chs.length,.at .unk⟩,hs,chs,rds,⟨⟨rfl,rfl,rfl,rfl⟩,fun j o hj hjm hjo => ?_,fun j _ _ => hh,⟨[],by simp⟩,⟨[],by simp⟩,fun _ h => h,rfl,
   fun j o hj hjm hjo => ?_,fun t c ht hc => ?_,fun j o hj hjm hjo => ?_,hk⟩⟩
  ·simp at hjm; omega
  ·simp at hjm; omega
  ·rw [List.getElem?_eq_none (by omega)] at hc; simp at hc
  ·simp at hjm; omega
 | o :: os,i,F,H,nx,hs,chs,rds,hk,hh,hl,ho => by
  have ho0 : ops[i]? = some o := by simpa using (ho 0 (by simp)).symm
  have ho' : ∀ j,j < os.length -> os[j]? = ops[i + 1 + j]? := fun j hj => by
   have := ho (j + 1) (by simp; omega)
   rw [show i + (j + 1) = i + 1 + j by omega] at this
   simpa using this
  simp only [evOpsA] at hk
  rcases evGuard_all hk with ⟨hw,hk⟩ | ⟨hw,hk⟩
  ·simp only [evOne] at hk
   cases hc : isC K o with
   | true =>
    simp only [hc,named_eq] at hk
    obtain ⟨⟨v,H',nx'⟩,h1,h2⟩ := evC_cp hC hk
    simp only at h2
    rw [snoc_eq,snoc_eq] at h2
    obtain ⟨r,hsF,chsF,rdsF,ht⟩ := evOpsA_trace hC os (i + 1) _ _ _ _ _ _ h2 (by
     rw [List.getElem?_append_right (by simp; omega)]
     simp [hl]) (by simp [hl]) ho'
    obtain ⟨s1,s2,s3,s4⟩ := ht.start
    refine ⟨_,hsF,chsF,rdsF,ht.cons (wd:=true) (v:=v) ho0 (Or.inr ⟨rfl,hw,s1,Or.inl ⟨hc,?_,by rw [s4]; simp⟩⟩) hh (fun _ h => h) (Or.inl ⟨hc,rfl,rfl⟩) (fun h => by rw [hc] at h; simp at h)⟩
    rw [s2,s3]; exact h1
   | false =>
    simp only [hc] at hk
    cases hlit : isLit K o with
    | true =>
     simp only [hlit] at hk
     obtain ⟨v,h1,h2⟩ := evLit_cp _ _ _ hk
     have hlk : looks F o = false := by
      unfold isLit at hlit
      unfold looks
      split at hlit
      ·rename_i hop _; simp [hop]
      ·rename_i hop _; simp [hop]
      ·simp at hlit
     simp only [hlk] at h2
     obtain ⟨r,hsF,chsF,rdsF,ht⟩ := evOpsA_trace hC os (i + 1) _ _ _ hs chs rds h2 hh hl ho'
     obtain ⟨s1,s2,s3,s4⟩ := ht.start
     refine ⟨_,hsF,chsF,rdsF,TraceOK.cons (t1:=[]) (t2:=[]) (wd:=true) (v:=v) ho0 (by simpa using ht) (Or.inr ⟨rfl,hw,s1,Or.inr (Or.inl ⟨hc,hlit,h1,s2,s3,s4⟩)⟩) hh (fun _ h => h) (Or.inr ⟨Or.inl hc,rfl⟩) (fun _ h => by rw [hlit] at h; simp at h)⟩
    | false =>
     simp only [hlit,named_eq] at hk
     obtain ⟨v,h1,h2⟩ := evR_cp _ _ _ hk
     cases hlk : looks F o with
     | true =>
      simp only [hlk] at h2
      obtain ⟨r,hsF,chsF,rdsF,ht⟩ := evOpsA_trace hC os (i + 1) _ _ _ hs chs _ h2 hh hl ho'
      obtain ⟨s1,s2,s3,s4⟩ := ht.start
      refine ⟨_,hsF,chsF,rdsF,TraceOK.cons (t1:=[]) (t2:=[]) (wd:=true) (v:=v) ho0 (by simpa using ht) (Or.inr ⟨rfl,hw,s1,Or.inr (Or.inr ⟨hc,hlit,h1,s2,s3,s4⟩)⟩) hh (fun _ h => by simp [h]) (Or.inr ⟨Or.inl hc,rfl⟩) (fun _ _ _ _ => by simp [len_eq'])⟩
     | false =>
      simp only [hlk] at h2
      obtain ⟨r,hsF,chsF,rdsF,ht⟩ := evOpsA_trace hC os (i + 1) _ _ _ hs chs _ h2 hh hl ho'
      obtain ⟨s1,s2,s3,s4⟩ := ht.start
      refine ⟨_,hsF,chsF,rdsF,TraceOK.cons (t1:=[]) (t2:=[]) (wd:=true) (v:=v) ho0 (by simpa using ht) (Or.inr ⟨rfl,hw,s1,Or.inr (Or.inr ⟨hc,hlit,h1,s2,s3,s4⟩)⟩) hh (fun _ h => h) (Or.inr ⟨Or.inl hc,rfl⟩) (fun _ _ h => by rw [hlk] at h; simp at h)⟩
  ·obtain ⟨r,hsF,chsF,rdsF,ht⟩ := evOpsA_trace hC os (i + 1) _ _ _ hs chs _ hk hh hl ho'
   obtain ⟨s1,s2,s3,s4⟩ := ht.start
   refine ⟨_,hsF,chsF,rdsF,TraceOK.cons (t1:=[]) (t2:=[]) (wd:=false) (v:=.at .und) ho0 (by simpa using ht) (Or.inl ⟨rfl,hw,rfl,s1,s2,s3,s4⟩) hh (fun _ h => h) (Or.inr ⟨Or.inr rfl,rfl⟩) (fun _ _ _ h => by simp at h)⟩
end Go.Eng
/-
 The engine, part twelve (d): a region in whatever order comes to what it comes to in the text's.
 Conditions: none; nothing is claimed of the program here.
-/
namespace Go.Eng
variable {RT : RoTab} {E : Env} {F : Fr} {a : Act} {H : Heap} {fp : Fp} {w : World} {P : Program} {Y : Type} {y : Y} {C : Cfg} {K : FCfg} {ops : Array Oper}
structure Setup (C : Cfg) (K : FCfg) (ops : Array Oper) (k : KS Y) (y : Y) (F : Fr) (H : Heap) (nx N M : Nat) (r : Nat -> Rec) (hsF : List Heap) (chsF : List Nat) (rdsF : List Rd) : Prop where
 hC : CfgOK C
 tr : TraceOK C K ops (ancsOf [] ops.toList) k y 0 M F H nx [H] [] [] r hsF chsF rdsF
 hM : M <= ops.size
 back : backEdges 0 ops.toList = true
 pairs : pairsOk ops.toList (ancsOf [] ops.toList) [] ops.toList = true
 chain : chainOk K (ancsOf [] ops.toList) [] ops.toList = true
 dst : dstOps N ops.toList = true
variable {k : KS Y} {nx N M : Nat} {r : Nat -> Rec} {hsF : List Heap} {chsF : List Nat} {rdsF : List Rd}
theorem op_lt {i : Nat} {o : Oper} (h : ops[i]? = some o) : i < ops.size := (Array.getElem?_eq_some_iff.1 h).1
theorem Setup.τ_step (S : Setup C K ops k y F H nx N M r hsF chsF rdsF) {j : Nat} (hj : j < M) : (r j).τ <= (r (j + 1)).τ /\ ((r j).τ = (r (j + 1)).τ -> (r j).nx = (r (j + 1)).nx) := by
 have hlt : j < ops.size := by have := S.hM; omega
 have h := S.tr.step j ops[j] (Nat.zero_le _) (by omega) (by simp [hlt])
 rcases h with ⟨_,_,_,_,_,h1,h2⟩ | ⟨_,_,_,⟨_,_,h2⟩ | ⟨_,_,_,_,h1,h2⟩ | ⟨_,_,_,_,h1,h2⟩⟩
 ·exact ⟨by omega,fun _ => h1.symm⟩
 ·exact ⟨by omega,fun h => by omega⟩
 ·exact ⟨by omega,fun _ => h1.symm⟩
 ·exact ⟨by omega,fun _ => h1.symm⟩
theorem Setup.τ_mono (S : Setup C K ops k y F H nx N M r hsF chsF rdsF) {j : Nat} : ∀ d,j + d <= M -> (r j).τ <= (r (j + d)).τ /\ ((r j).τ = (r (j + d)).τ -> (r j).nx = (r (j + d)).nx)
 | 0,_ => ⟨Nat.le_refl _,fun _ => rfl⟩
 | d + 1,h => by
  obtain ⟨h1,h2⟩ := S.τ_mono (j:=j) d (by omega)
  obtain ⟨h3,h4⟩ := S.τ_step (j:=j + d) (by omega)
  rw [show j + (d + 1) = j + d + 1 by omega]
  exact ⟨by omega,fun he => (h2 (by omega)).trans (h4 (by omega))⟩
theorem Setup.τ_le (S : Setup C K ops k y F H nx N M r hsF chsF rdsF) {i j : Nat} (hij : i <= j) (hj : j <= M) : (r i).τ <= (r j).τ := by
 have := (S.τ_mono (j:=i) (j - i) (by omega)).1
 rwa [show i + (j - i) = j by omega] at this
theorem Setup.same_time (S : Setup C K ops k y F H nx N M r hsF chsF rdsF) {i j : Nat} (hi : i <= M) (hj : j <= M) (h : (r i).τ = (r j).τ) : (r i).H = (r j).H /\ (r i).nx = (r j).nx := by
 constructor
 ·have h1 := S.tr.heap i (Nat.zero_le _) (by omega)
  have h2 := S.tr.heap j (Nat.zero_le _) (by omega)
  rw [h,h2] at h1
  exact (Option.some.inj h1).symm
 ·rcases Nat.le_total i j with hij | hij
  ·have := (S.τ_mono (j:=i) (j - i) (by omega)).2
   rw [show i + (j - i) = j by omega] at this
   exact this h
  ·have := (S.τ_mono (j:=j) (i - j) (by omega)).2
   rw [show j + (i - j) = i by omega] at this
   exact (this h.symm).symm
theorem Setup.frame (S : Setup C K ops k y F H nx N M r hsF chsF rdsF) : ∀ (j t : Nat),j <= M ->
  (∃ m o,m < j /\ ops[m]? = some o /\ o.dst = some t /\ (r j).F t = (r m).v) \/ ((∀ m o,m < j -> ops[m]? = some o -> o.dst ≠ some t) /\ (r j).F t = F t)
 | 0,t,_ => Or.inr ⟨fun m o h => by omega,by rw [S.tr.start.1]⟩
 | j + 1,t,hj => by
  have hlt : j < ops.size := by have := S.hM; omega
  have hoj : ops[j]? = some ops[j] := by simp [hlt]
  have hF : (r (j + 1)).F = putO (r j).F ops[j].dst (r j).v := by
   rcases S.tr.step j _ (Nat.zero_le _) (by omega) hoj with ⟨_,_,_,h,_⟩ | ⟨_,_,h,_⟩ <;> exact h
  by_cases hd : ops[j].dst = some t
  ·refine Or.inl ⟨j,_,by omega,hoj,hd,?_⟩
   rw [hF,hd]
   simp only [putO,putF_same]
  ·have hFt : (r (j + 1)).F t = (r j).F t := by
    rw [hF]
    cases hdd : ops[j].dst with
    | none => rfl
    | some d =>
     simp only [putO]
     exact putF_other fun he => hd (by rw [hdd,he])
   rcases S.frame j t (by omega) with ⟨m,o,h1,h2,h3,h4⟩ | ⟨h1,h2⟩
   ·exact Or.inl ⟨m,o,by omega,h2,h3,by rw [hFt,h4]⟩
   ·refine Or.inr ⟨fun m o hm ho => ?_,by rw [hFt,h2]⟩
    by_cases he : m = j
    ·subst he
     rw [hoj] at ho
     obtain rfl := Option.some.inj ho
     exact hd
    ·exact h1 m o (by omega) ho
theorem anc_get {i : Nat} {o : Oper} (h : ops[i]? = some o) : (ancsOf [] ops.toList)[i]? = some (edgesOf ((ancsOf [] ops.toList).take i) o.after.toList) := by
 have := (ancsOf_get (os:=ops.toList) (acc:=[])).2.2 i o (by simpa using h)
 simpa using this
theorem anc_len : (ancsOf [] ops.toList).length = ops.toList.length := by
 have := (ancsOf_get (os:=ops.toList) (acc:=[])).2.1
 simpa using this
theorem Setup.pair (S : Setup C K ops k y F H nx N M r hsF chsF rdsF) {i m : Nat} {x b : Oper} (hx : ops[i]? = some x) (hb : ops[m]? = some b) (him : i < m) :
  pairOk ops.toList (bit (nthD 0 (ancsOf [] ops.toList) m) i) x b = true := by
 have ha := anc_get hb
 have := pairsOk_get S.pairs anc_len m i b x _ (by simpa using hb) ha (by simpa using hx) (by simpa using him)
 rwa [show nthD 0 (ancsOf [] ops.toList) m = edgesOf ((ancsOf [] ops.toList).take m) b.after.toList by rw [nthD_eq,List.getD_eq_getElem?_getD,ha]; rfl]
theorem Setup.chained (S : Setup C K ops k y F H nx N M r hsF chsF rdsF) {i m : Nat} {x b : Oper} (hx : ops[i]? = some x) (hb : ops[m]? = some b) (him : i < m) (hcx : isC K x = true) (hcb : isC K b = true) :
  bit (nthD 0 (ancsOf [] ops.toList) m) i = true := by
 have ha := anc_get hb
 have := chainOk_get S.chain anc_len m i b x _ (by simpa using hb) ha (by simpa using hx) (by simpa using him) hcb hcx
 rwa [show nthD 0 (ancsOf [] ops.toList) m = edgesOf ((ancsOf [] ops.toList).take m) b.after.toList by rw [nthD_eq,List.getD_eq_getElem?_getD,ha]; rfl]
theorem eqO_some {x z : Option Tmp} {d : Tmp} (hx : x = some d) (hz : z = some d) : eqO x z = true := by
 subst hx; subst hz; simp [eqO]
theorem Setup.dst_ne (S : Setup C K ops k y F H nx N M r hsF chsF rdsF) {i m : Nat} {x b : Oper} {d : Tmp} (hx : ops[i]? = some x) (hb : ops[m]? = some b) (hxd : x.dst = some d) (hbd : b.dst = some d) : i = m := by
 have key : ∀ {i m : Nat} {x b : Oper},ops[i]? = some x -> ops[m]? = some b -> x.dst = some d -> b.dst = some d -> ¬ i < m := by
  intro i m x b hx hb hxd hbd him
  have := S.pair hx hb him
  unfold pairOk at this
  rw [eqO_some hxd hbd] at this
  simp at this
 have h1 := key hx hb hxd hbd
 have h2 := key hb hx hbd hxd
 omega
theorem anc_done (hback : backEdges 0 ops.toList = true) {Λ : Array Bool} (hcl : ∀ j o,ops[j]? = some o -> Λ.getD j false = true -> ∀ e ∈ o.after,bindsAny e.ground = true -> Λ.getD e.on false = true) :
  ∀ (n i : Nat) (o : Oper),i < n -> ops[i]? = some o -> (∀ e ∈ o.after,bindsAny e.ground = true -> Λ.getD e.on false = true) -> ∀ m,bit (nthD 0 (ancsOf [] ops.toList) i) m = true -> Λ.getD m false = true
 | 0,i,o,h,_,_,_,_ => by omega
 | n + 1,i,o,h,ho,he,m,hm => by
  have ha := anc_get ho
  rw [nthD_eq,List.getD_eq_getElem?_getD,ha] at hm
  simp only [Option.getD_some] at hm
  obtain ⟨e,hel,hb,h1⟩ := edgesOf_bit hm
  have hel' : e ∈ o.after := by simpa using hel
  have hlt := backEdges_get hback (by simpa using ho : ops.toList[i]? = some o) hel' hb
  rw [Nat.zero_add] at hlt
  rcases h1 with rfl | h1
  ·exact he e hel' hb
  ·rw [nthD_take hlt] at h1
   have hlt2 : e.on < ops.size := by have := op_lt ho; omega
   have hon : ops[e.on]? = some ops[e.on] := by simp [hlt2]
   exact anc_done hback hcl n e.on _ (by omega) hon (hcl e.on _ hon (he e hel' hb)) m h1
theorem isFl_lit {o : Oper} (h : isFl K o = true) : isLit K o = true /\ o.guard = none /\ isC K o = false := by
 unfold isFl at h
 split at h
 ·rename_i e d h1 h2 h3
  have hl : isLit K o = true := by unfold isLit; simp only [h1,h2]; exact h
  exact ⟨hl,h3,by unfold isC; simp only [h1]; rw [hl]; rfl⟩
 ·simp at h
def Flt (RT : RoTab) (P : Program) (E : Env) (H : Heap) (fp : Fp) (w : World) (n0 : Nat) (e : TypeId) (u : Value) : Prop :=
 ∃ (v : Value) (cb : Nat) (z : List Atom),n0 <= cb /\ u = .pointer (some ⟨cb,0,none⟩) /\ (zeroA P e = some z /\ RCs RT E z v.cells) /\ w.heap[cb]? = some (.cells v.cells e) /\
  (∀ x,OwnAll H fp x -> x.1 ≠ cb) /\ (∀ ad z,E.M ad = some z -> ad.block ≠ cb)
theorem Flt.low {n0 n1 : Nat} {e : TypeId} {u : Value} (h : Flt RT P E H fp w n0 e u) (hn : n1 <= n0) : Flt RT P E H fp w n1 e u := by
 obtain ⟨v,cb,z,h0,h1⟩ := h
 exact ⟨v,cb,z,Nat.le_trans hn h0,h1⟩
theorem Flt.step {n0 : Nat} {e : TypeId} {u : Value} {nx nx' : Nat} {E' : Env} {H' : Heap} {fp' : Fp} {w' : World} (h : Flt RT P E H fp w n0 e u) (hst : Step E H fp w nx E' H' fp' w' nx') : Flt RT P E' H' fp' w' n0 e u := by
 obtain ⟨v,cb,z,h0,h1,h2,h3,h4,h5⟩ := h
 have hlt : cb < w.heap.size := heap_lt h3
 refine ⟨v,cb,z,h0,h1,⟨h2.1,h2.2.mono hst.le⟩,?_,fun x hx he => h4 x (hst.own x hx (by omega)) he,fun ad z hz he => ?_⟩
 ·obtain ⟨c',k1,k2,k3⟩ := hst.frm.cells cb _ _ _ h3
  rw [k1]
  have : c' = v.cells := by
   apply Array.ext_getElem?
   intro i
   exact k3 i (fun hx => h4 _ hx rfl)
  rw [this]
 ·rcases hst.ext ad z hz with h | h | h
  ·exact h5 ad z h he
  ·omega
  ·exact h4 _ h he
structure Inv (C : Cfg) (K : FCfg) (ops : Array Oper) (F : Fr) (r : Nat -> Rec) (N M : Nat) (E0 : Env) (H0 : Heap) (fp0 : Fp) (w0 : World) (nx0 : Nat) (a0 : Act) (Λ : Array Bool) (E : Env) (fp : Fp) (w : World) (a : Act) (p : Nat) : Prop where
 size : Λ.size = ops.size
 closed : ∀ j o,ops[j]? = some o -> Λ.getD j false = true -> ∀ e ∈ o.after,bindsAny e.ground = true -> Λ.getD e.on false = true
 pend : ∀ j,M <= j -> Λ.getD j false = false
 pn : p <= M
 time : ∀ c o,c < M -> ops[c]? = some o -> isC K o = true -> (r c).wd = true -> (Λ.getD c false = true ↔ (r c).τ < (r p).τ)
 sim : Sim C.RT E (r p).H fp w
 step : Step E0 H0 fp0 w0 nx0 E (r p).H fp w (r p).nx
 got : ∀ m o d,ops[m]? = some o -> o.dst = some d -> Λ.getD m false = true -> RV C.RT E (r m).v (a.tmps.getD d undef)
 not : ∀ d,(∀ m o,ops[m]? = some o -> o.dst = some d -> Λ.getD m false = false) -> RV C.RT E (F d) (a.tmps.getD d undef)
 asz : a.tmps.size = N
 df : a.defers = []
 same : Same (asgOps ops.toList) a0 a
 flt : ∀ m o e d,ops[m]? = some o -> o.op = .alloc e -> isFl K o = true -> o.dst = some d -> Λ.getD m false = true -> Flt C.RT C.P E (r p).H fp w w0.heap.size e (a.tmps.getD d undef)
variable {E0 : Env} {H0 : Heap} {fp0 : Fp} {w0 : World} {nx0 : Nat} {a0 : Act} {Λ : Array Bool} {p : Nat}
theorem opdTmps_mem : ∀ {l : List Operand} {t : Tmp},Operand.tmp t ∈ l -> t ∈ opdTmps l
 | [],t,h => by simp at h
 | x :: l,t,h => by
  rcases List.mem_cons.1 h with rfl | h
  ·simp [opdTmps]
  ·have := opdTmps_mem h
   cases x <;> simp [opdTmps,this]
theorem eyes_opd {all : List Oper} {o : Oper} {t : Tmp} (h : Operand.tmp t ∈ o.op.operands) : t ∈ eyes all o := by
 have := opdTmps_mem (l:=o.op.operands.toList) (t:=t) (by simpa using h)
 unfold eyes
 split
 ·split
  ·simp [this]
  ·exact this
 ·exact this
theorem eyes_guard {all : List Oper} {o : Oper} {g : Nat} {want : Bool} {d : Tmp} (h : o.guard = some (g,want)) (hd : dstAt all g = some d) : d ∈ eyes all o := by
 unfold eyes
 simp only [h,hd]
 simp
theorem memO_some {l : List Tmp} {x : Option Tmp} {d : Tmp} (hx : x = some d) (hd : d ∈ l) : memO l x = true := by
 subst hx
 exact mem_iff.2 hd
theorem Inv.sees (S : Setup C K ops k y F H nx N M r hsF chsF rdsF) (I : Inv C K ops F r N M E0 H0 fp0 w0 nx0 a0 Λ E fp w a p) {i : Nat} {o : Oper} (ho : ops[i]? = some o) (hiM : i <= M) (hun : Λ.getD i false = false)
  (hed : ∀ e ∈ o.after,bindsAny e.ground = true -> Λ.getD e.on false = true) {t : Tmp} (ht : t ∈ eyes ops.toList o) : RV C.RT E ((r i).F t) (a.tmps.getD t undef) := by
 have hdone := anc_done S.back I.closed (i + 1) i o (by omega) ho hed
 rcases S.frame i t hiM with ⟨m,om,h1,h2,h3,h4⟩ | ⟨h1,h2⟩
 ·rw [h4]
  refine I.got m om t h2 h3 (hdone m ?_)
  have := S.pair h2 ho h1
  unfold pairOk at this
  rw [memO_some h3 ht] at this
  simp only [Bool.not_true,Bool.false_and,Bool.or_false,Bool.and_eq_true] at this
  exact this.2
 ·rw [h2]
  refine I.not t fun m om hm hd => ?_
  have hmi : ¬ m < i := fun h => h1 m om h hm hd
  rcases Nat.lt_or_ge i m with him | him
  ·have := S.pair ho hm him
   unfold pairOk at this
   rw [memO_some hd ht] at this
   simp only [Bool.not_true,Bool.and_false,Bool.or_false,Bool.and_eq_true] at this
   cases hl : Λ.getD m false with
   | false => rfl
   | true =>
    have := anc_done S.back I.closed (m + 1) m om (by omega) hm (I.closed m om hm hl) i this.2
    rw [hun] at this; simp at this
  ·have : m = i := by omega
   rw [this]; exact hun
theorem getD_set_self {i : Nat} (h : i < Λ.size) : (Λ.setIfInBounds i true).getD i false = true := by
 simp [h]
theorem Inv.next (S : Setup C K ops k y F H nx N M r hsF chsF rdsF) (I : Inv C K ops F r N M E0 H0 fp0 w0 nx0 a0 Λ E fp w a p) {i : Nat} {o : Oper} (ho : ops[i]? = some o) (hiM : i < M)
  (hed : ∀ e ∈ o.after,bindsAny e.ground = true -> Λ.getD e.on false = true) {E' : Env} {fp' : Fp} {w' : World} {u : Value} {p' : Nat} (hp' : p' <= M) (hs' : Sim C.RT E' (r p').H fp' w')
  (hst : Step E (r p).H fp w (r p).nx E' (r p').H fp' w' (r p').nx) (hv : RV C.RT E' (r i).v u)
  (ht : ∀ c o,c < M -> ops[c]? = some o -> isC K o = true -> (r c).wd = true -> ((Λ.setIfInBounds i true).getD c false = true ↔ (r c).τ < (r p').τ))
  (hfl : ∀ e d,o.op = .alloc e -> isFl K o = true -> o.dst = some d -> Flt C.RT C.P E' (r p').H fp' w' w0.heap.size e u) :
  Inv C K ops F r N M E0 H0 fp0 w0 nx0 a0 (Λ.setIfInBounds i true) E' fp' w' (a.put o.dst u) p' := by
 have hi := op_lt ho
 have hdl : ∀ d,o.dst = some d -> d < a.tmps.size := by
  intro d hd
  rw [I.asz]
  have key : ∀ l : List Oper,dstOps N l = true -> o ∈ l -> d < N := by
   intro l
   induction l with
   | nil => intro _ h; simp at h
   | cons x l ih =>
    intro h hm
    obtain ⟨h1,h2⟩ := dstOps_cons h
    rcases List.mem_cons.1 hm with rfl | hm
    ·exact h1 d hd
    ·exact ih h2 hm
  exact key _ S.dst (by simpa using Array.mem_of_getElem? ho)
 have hself : (Λ.setIfInBounds i true).getD i false = true := getD_set_self (by rw [I.size]; exact hi)
 refine ⟨by simp [I.size],fun j oj hj hl e he hb => ?_,fun j hj => by rw [getD_set_ne false (by omega)]; exact I.pend j hj,hp',ht,hs',I.step.trans hst,fun m om d hm hd hl => ?_,fun d hd => ?_,by rw [Act.put_size]; exact I.asz,by cases o.dst <;> exact I.df,?_,fun m om e d hm hop hfo hd hl => ?_⟩
 ·by_cases hij : i = j
  ·subst hij
   rw [ho] at hj
   obtain rfl := Option.some.inj hj
   exact getD_set_true (hed e he hb)
  ·rw [getD_set_ne false hij] at hl
   exact getD_set_true (I.closed j oj hj hl e he hb)
 ·by_cases him : i = m
  ·subst him
   rw [ho] at hm
   obtain rfl := Option.some.inj hm
   rw [hd]
   simp only [Act.put]
   rw [getD_set_same (hdl d hd)]
   exact hv
  ·rw [getD_set_ne false him] at hl
   have hne : o.dst ≠ some d := fun h => him (S.dst_ne ho hm h hd)
   have : (a.put o.dst u).tmps.getD d undef = a.tmps.getD d undef := by
    cases hod : o.dst with
    | none => rfl
    | some d' =>
     simp only [Act.put]
     exact getD_set_other fun he => hne (by rw [hod,he])
   rw [this]
   exact (I.got m om d hm hd hl).mono hst.le
 ·have hne : o.dst ≠ some d := fun h => by
   have := hd i o ho h
   rw [hself] at this
   simp at this
  have : (a.put o.dst u).tmps.getD d undef = a.tmps.getD d undef := by
   cases hod : o.dst with
   | none => rfl
   | some d' =>
    simp only [Act.put]
    exact getD_set_other fun he => hne (by rw [hod,he])
  rw [this]
  refine (I.not d fun m om hm hdm => ?_).mono hst.le
  have := hd m om hm hdm
  by_cases him : i = m
  ·subst him; rw [hself] at this; simp at this
  ·rwa [getD_set_ne false him] at this
 ·refine I.same.trans ((Same.put a o.dst u).mono fun j hj => ?_)
  have key : ∀ l : List Oper,o ∈ l -> asgOps l j = true := by
   intro l
   induction l with
   | nil => intro h; simp at h
   | cons x l ih =>
    intro hm
    rcases List.mem_cons.1 hm with rfl | hm
    ·exact asgOps_head hj
    ·exact asgOps_tail (ih hm)
  exact key _ (by simpa using Array.mem_of_getElem? ho)
 ·by_cases him : i = m
  ·subst him
   rw [ho] at hm
   obtain rfl := Option.some.inj hm
   rw [hd]
   simp only [Act.put]
   rw [getD_set_same (hdl d hd)]
   exact hfl e d hop hfo hd
  ·rw [getD_set_ne false him] at hl
   have hne : o.dst ≠ some d := fun h => him (S.dst_ne ho hm h hd)
   have : (a.put o.dst u).tmps.getD d undef = a.tmps.getD d undef := by
    cases hod : o.dst with
    | none => rfl
    | some d' =>
     simp only [Act.put]
     exact getD_set_other fun he => hne (by rw [hod,he])
   rw [this]
   exact (I.flt m om e d hm hop hfo hd hl).step hst
theorem noInl_ok : InlOK C noInl := fun Y y g args H nx k E fp w cargs hk => by simp [noInl] at hk
theorem flt_sound {nx : Nat} {o : Oper} (hs : Sim RT E H fp w) (hf : Fresh E nx) (hfo : isFl K o = true) {F : Fr} {k : AV -> Option Y} (hk : evLit P F o.op k = some y) :
  ∃ u w',k (.at .unk) = some y /\ (execOp a.eval o).run P w = .ok (.value u) w' /\ Sim RT E H fp w' /\ Step E H fp w nx E H fp w' nx /\ ∀ e,o.op = .alloc e -> Flt RT P E H fp w' w.heap.size e u := by
 unfold isFl at hfo
 split at hfo
 ·rename_i e d h1 h2 h3
  unfold evLit at hk
  simp only [h1] at hk
  split at hk
  ·simp at hk
  ·split at hk
   ·rename_i z hz
    obtain ⟨v,q1,q2,_⟩ := zero_sound (P:=P) (w:=w) (RT:=RT) (E:=E) hz
    refine ⟨.pointer (some ⟨w.heap.size,0,none⟩),w.alloc (.cells v.cells e),hk,?_,hs.frm (Frm.alloc w _ (fun _ => False)) (fun _ _ h => h) (fun _ _ _ h => h),⟨.refl E,Frm.alloc w _ _,fun x hx _ => hx,Nat.le_refl _,hf,fun ad v h => Or.inl h⟩,fun e' he' => ?_⟩
    ·unfold execOp
     simp only [h1]
     simp [Sem.run_bind,Instr.alloc,q1,newVar,newRow,Result.andThen_ok,Sem.run_pure]
    ·obtain rfl : e = e' := by rw [h1] at he'; simpa using he'
     refine ⟨v,w.heap.size,z,Nat.le_refl _,rfl,⟨hz,q2⟩,show (w.heap.push _)[w.heap.size]? = _ from Array.getElem?_push_size,fun x ⟨id,b,hb,hx⟩ he => ?_,fun ad z hz he => ?_⟩
     ·have := hs.cell_lt hb hx; omega
     ·have := World.block_lt_of_cell? _ _ (hs.ro ad z hz).2.1; omega
   ·simp at hk
 ·simp at hfo
theorem Inv.op (S : Setup C K ops k y F H nx N M r hsF chsF rdsF) (I : Inv C K ops F r N M E0 H0 fp0 w0 nx0 a0 Λ E fp w a p) {i : Nat} {o : Oper} (ho : ops[i]? = some o) (hiM : i < M) (hun : Λ.getD i false = false)
  (hed : ∀ e ∈ o.after,bindsAny e.ground = true -> Λ.getD e.on false = true) {Q : Exit -> Act -> World -> Prop} {Kk : Act -> World -> Prop}
  (hK : ∀ E' fp' w' a' p',Inv C K ops F r N M E0 H0 fp0 w0 nx0 a0 (Λ.setIfInBounds i true) E' fp' w' a' p' -> Kk a' w') : wpOp C.P ops Q i Kk a w := by
 have hi := op_lt ho
 have hdone := anc_done S.back I.closed (i + 1) i o (by omega) ho hed
 have hG : GuardRel ops o C.RT E (r i).F a := fun g want d hg hd => I.sees S ho (Nat.le_of_lt hiM) hun hed (eyes_guard hg hd)
 have hrf : RF C.RT E (only o.op.operands (r i).F) a := only_rf fun t ht => I.sees S ho (Nat.le_of_lt hiM) hun hed (eyes_opd ht)
 have hco : ∀ x ∈ o.op.operands,evOpd (r i).F x = evOpd (only o.op.operands (r i).F) x := fun x hx => (only_opd hx).symm
 -- the time of the others stays
 have htime : ¬ (isC K o = true /\ (r i).wd = true) -> ∀ c oc,c < M -> ops[c]? = some oc -> isC K oc = true -> (r c).wd = true -> ((Λ.setIfInBounds i true).getD c false = true ↔ (r c).τ < (r p).τ) := by
  intro hn c oc hcM hc hic hwd
  have hne : i ≠ c := fun he => by subst he; rw [ho] at hc; obtain rfl := Option.some.inj hc; exact hn ⟨hic,hwd⟩
  rw [getD_set_ne false hne]
  exact I.time c oc hcM hc hic hwd
 unfold wpOp
 simp only [ho]
 rcases S.tr.step i o (Nat.zero_le _) (by omega) ho with ⟨h1,h2,h3,_⟩ | ⟨h1,h2,_,h3⟩
 ·rw [if_neg (by rw [h2 _ _ _ hG]; simp)]
  exact hK E fp w _ p (I.next S ho hiM hed I.pn I.sim (Step.refl I.step.fresh) (by rw [h3]; exact R.und) (htime fun h => by rw [h1] at h; simp at h) (fun e d _ hfo _ => by
   have := h2 _ _ _ hG
   rw [Region.wanted,(isFl_lit hfo).2.1] at this
   simp at this))
 ·rw [if_pos (h2 _ _ _ hG)]
  left
  rcases h3 with ⟨hc,hev,hτ⟩ | ⟨hc,hl,hev,_⟩ | ⟨hc,hl,hev,hrest⟩
  ·-- it turns memory: it is its turn
   have hτp : (r i).τ = (r p).τ := by
    have hge : (r p).τ <= (r i).τ := by
     rcases Nat.lt_or_ge (r i).τ (r p).τ with h | h
     ·have := (I.time i o hiM ho hc h1).2 h
      rw [hun] at this; simp at this
     ·exact h
    rcases Nat.lt_or_ge (r p).τ (r i).τ with h | h
    ·exfalso
     have hlen : (r p).τ < chsF.length := by
      have := S.tr.ch i o (Nat.zero_le _) (by omega) ho hc h1
      have hlt : (r i).τ < chsF.length := by
       rcases Nat.lt_or_ge (r i).τ chsF.length with h' | h'
       ·exact h'
       ·rw [List.getElem?_eq_none h'] at this; simp at this
      omega
     obtain ⟨_,gM,g2,oc,g3,g4,g5⟩ := S.tr.chI (r p).τ chsF[(r p).τ] (by simp) (by simp [hlen])
     have hci : chsF[(r p).τ] < i := by
      rcases Nat.lt_or_ge chsF[(r p).τ] i with h' | h'
      ·exact h'
      ·have := S.τ_le h' (Nat.le_of_lt (show chsF[(r p).τ] < M by omega))
       omega
     have hanc := S.chained g3 ho hci g4 hc
     have := (I.time _ oc (by omega) g3 g4 g5).1 (hdone _ hanc)
     omega
    ·omega
   obtain ⟨s1,s2⟩ := S.same_time (i:=i) (j:=p) (by omega) I.pn hτp
   rw [evC_congr hco,s1,s2] at hev
   refine evC_sound S.hC noInl_ok I.sim I.step.fresh hrf hev fun v u H' nx' E' fp' w' g1 g2 g3 g4 => ?_
   simp only [Option.some.injEq,Prod.mk.injEq] at g1
   obtain ⟨rfl,rfl,rfl⟩ := g1
   refine hK E' fp' w' _ (i + 1) (I.next S ho hiM hed (by omega) g3 g4 g2 (fun c oc hcM hcc hic hwd => ?_) (fun e d _ hfo _ => by rw [(isFl_lit hfo).2.2] at hc; simp at hc))
   rw [hτ]
   by_cases hic' : i = c
   ·subst hic'
    rw [getD_set_self (by rw [I.size]; exact hi)]
    simp
   ·rw [getD_set_ne false hic',I.time c oc hcM hcc hic hwd,<- hτp]
    constructor
    ·intro h; omega
    ·intro h
     rcases Nat.lt_or_ge (r c).τ (r i).τ with h' | h'
     ·exact h'
     ·exfalso
      have he : (r c).τ = (r i).τ := by omega
      have q1 := S.tr.ch c oc (Nat.zero_le _) (by omega) hcc hic hwd
      have q2 := S.tr.ch i o (Nat.zero_le _) (by omega) ho hc h1
      rw [he,q2] at q1
      exact hic' (Option.some.inj q1)
  ·rw [evLit_congr hco] at hev
   cases hfo : isFl K o with
   | true =>
    obtain ⟨u,w',g1,g2,g3,g4,g5⟩ := flt_sound I.sim I.step.fresh hfo hev
    simp only [Option.some.injEq] at g1
    unfold Oper.wp
    rw [g2]
    exact hK E fp w' _ p (I.next S ho hiM hed I.pn g3 g4 (by rw [<- g1]; exact R.unk _) (htime fun h => by rw [hc] at h; simp at h) (fun e d hop _ _ => (g5 e hop).low I.step.frm.size))
   | false =>
    obtain ⟨v,E',u,w',g1,g2,g3,g4,g5⟩ := lit_sound I.sim I.step.fresh hrf hev
    simp only [Option.some.injEq] at g1
    unfold Oper.wp
    rw [g2]
    exact hK E' fp w' _ p (I.next S ho hiM hed I.pn g4 g5 (by rw [<- g1]; exact g3) (htime fun h => by rw [hc] at h; simp at h) (fun e d _ h _ => by rw [hfo] at h; simp at h))
  ·have hevp : evR C.P C.RT (r p).H (r i).F o.op some = some (r i).v := by
    cases hlk : looks (r i).F o with
    | false => rw [evR_blind (H' := (r i).H) hlk]; exact hev
    | true =>
     by_cases hτ : (r p).τ = (r i).τ
     ·rw [(S.same_time I.pn (by omega) hτ).1]; exact hev
     ·have hrd := S.tr.rd i o (Nat.zero_le _) (by omega) ho hc hl hlk h1
      refine (checkRds_get S.tr.fin).2 _ hrd (r p).τ (r p).H (S.tr.heap p (Nat.zero_le _) (by have := I.pn; omega)) (fits_of fun t c hct => ?_) hτ
      obtain ⟨_,gM,g2,oc,g3,g4,g5⟩ := S.tr.chI t c (by simp) hct
      have htc := I.time c oc (by omega) g3 g4 g5
      rw [g2] at htc
      constructor
      ·intro ht
       cases hb : bit (nthD 0 (ancsOf [] ops.toList) c) i with
       | false => rfl
       | true =>
        have := anc_done S.back I.closed (c + 1) c oc (by omega) g3 (I.closed c oc g3 (htc.2 ht)) i hb
        rw [hun] at this; simp at this
      ·intro ht
       cases hb : bit (nthD 0 (ancsOf [] ops.toList) i) c with
       | false => rfl
       | true =>
        have := htc.1 (hdone c hb)
        omega
   rw [evR_congr hco] at hevp
   obtain ⟨v,u,g1,g2,g3⟩ := evR_sound hrf I.sim hevp
   simp only [Option.some.injEq] at g1
   unfold Oper.wp
   rw [g2]
   exact hK E fp w _ p (I.next S ho hiM hed I.pn I.sim (Step.refl I.step.fresh) (by rw [<- g1]; exact g3) (htime fun h => by rw [hc] at h; simp at h) (fun e d _ hfo _ => by rw [(isFl_lit hfo).1] at hl; simp at hl))
theorem least_ready (hback : backEdges 0 ops.toList = true) (hsz : Λ.size = ops.size) (hr : Region.ready .any ops Λ = []) : ∀ (n j : Nat),j < n -> j < ops.size -> Λ.getD j false = true
 | 0,j,h,_ => by omega
 | n + 1,j,h,hj => by
  cases hl : Λ.getD j false with
  | true => rfl
  | false =>
   exfalso
   have hoj : ops[j]? = some ops[j] := by simp [hj]
   have : j ∈ Region.ready .any ops Λ := by
    rw [mem_ready]
    refine ⟨?_,_,hoj,fun e he hb => ?_⟩
    ·have hlt : j < Λ.size := by omega
     simp [hlt] at hl ⊢
     exact hl
    ·rw [binds_eq] at hb
     have := backEdges_get hback (by rw [Array.getElem?_toList]; exact hoj : ops.toList[j]? = some _) he hb
     exact least_ready hback hsz hr n e.on (by omega) (by omega)
   rw [hr] at this
   simp at this
theorem coversAll_get {m : Nat} : ∀ {n j : Nat},coversAll m n = true -> j < n -> bit m j = true
 | 0,j,_,h => by omega
 | n + 1,j,h,hj => by
  simp only [coversAll,Bool.and_eq_true] at h
  rcases Nat.lt_or_ge j n with h' | h'
  ·exact coversAll_get h.2 h'
  ·have : j = n := by omega
   rw [this]; exact h.1
theorem ready_none (hsz : Λ.size = ops.size) (hall : ∀ j,j < ops.size -> Λ.getD j false = true) : Region.ready .any ops Λ = [] := by
 rw [List.eq_nil_iff_forall_not_mem]
 intro j hj
 rw [mem_ready] at hj
 obtain ⟨h1,o,ho,_⟩ := hj
 have := hall j (op_lt ho)
 have hlt : j < Λ.size := by rw [hsz]; exact op_lt ho
 simp [hlt] at h1 this
 rw [this] at h1
 simp at h1
theorem wpAny_done {Q : Exit -> Act -> World -> Prop} (hsz : Λ.size = ops.size) (hall : ∀ j,j < ops.size -> Λ.getD j false = true) (fuel : Nat) (h : Q .normal a w) : wpAny P .any ops Q fuel Λ a w := by
 have hr := ready_none hsz hall
 cases fuel with
 | zero => exact ⟨hr,h⟩
 | succ fuel => exact ⟨fun _ => h,fun i hi => by rw [hr] at hi; simp at hi⟩
theorem any_ok (S : Setup C K ops k y F H nx N M r hsF chsF rdsF) (q : Nat) (hcov : ∀ j,M <= j -> j < ops.size -> ∀ i,i < M -> i ≠ q -> bit (nthD 0 (ancsOf [] ops.toList) j) i = true) {Q : Exit -> Act -> World -> Prop}
  (hfin : ∀ fuel Λ E fp w a p,Λ.toList.count false <= fuel -> Inv C K ops F r N M E0 H0 fp0 w0 nx0 a0 Λ E fp w a p -> (∀ j,j < M -> j ≠ q -> Λ.getD j false = true) -> wpAny C.P .any ops Q fuel Λ a w) :
  ∀ (fuel : Nat) (Λ : Array Bool) (E : Env) (fp : Fp) (w : World) (a : Act) (p : Nat),Λ.toList.count false <= fuel -> Inv C K ops F r N M E0 H0 fp0 w0 nx0 a0 Λ E fp w a p -> wpAny C.P .any ops Q fuel Λ a w
 | 0,Λ,E,fp,w,a,p,hf,I => by
  refine hfin 0 Λ E fp w a p hf I fun j hj _ => ?_
  have hlt : j < Λ.size := by rw [I.size]; have := S.hM; omega
  cases hl : Λ.getD j false with
  | true => rfl
  | false =>
   have hm : false ∈ Λ.toList := by
    simp [hlt] at hl
    rw [<- hl]
    simp
   have := List.count_pos_iff.2 hm
   omega
 | fuel + 1,Λ,E,fp,w,a,p,hf,I => by
  by_cases hall : ∀ j,j < M -> j ≠ q -> Λ.getD j false = true
  ·exact hfin _ Λ E fp w a p hf I hall
  refine ⟨fun hr => absurd (fun j hj _ => least_ready S.back I.size hr (j + 1) j (by omega) (by have := S.hM; omega)) hall,fun i hi => ?_⟩
  rw [mem_ready] at hi
  obtain ⟨h1,o,ho,hed⟩ := hi
  have hlt : i < Λ.size := by rw [I.size]; exact op_lt ho
  have hun : Λ.getD i false = false := by simp [hlt] at h1 ⊢; exact h1
  have hed' : ∀ e ∈ o.after,bindsAny e.ground = true -> Λ.getD e.on false = true := fun e he hb => hed e he (by rw [binds_eq]; exact hb)
  have hiM : i < M := by
   rcases Nat.lt_or_ge i M with h | h
   ·exact h
   ·have hdone := anc_done S.back I.closed (i + 1) i o (by omega) ho hed'
    exact absurd (fun j hj hq => hdone j (hcov i h (op_lt ho) j hj hq)) hall
  refine I.op S ho hiM hun hed' fun E' fp' w' a' p' I' => any_ok S q hcov hfin fuel _ E' fp' w' a' p' ?_ I'
  have hli : Λ.toList[i]'(by simpa using hlt) = false := by simp [hlt] at hun; simpa using hun
  rw [Array.toList_setIfInBounds,List.count_set (by simpa using hlt)]
  rw [hli]
  have e1 : (false == false) = true := rfl
  have e2 : ¬ (true == false) = true := by decide
  rw [if_pos e1,if_neg e2]
  omega
theorem Inv.done (S : Setup C K ops k y F H nx N M r hsF chsF rdsF) (I : Inv C K ops F r N M E0 H0 fp0 w0 nx0 a0 Λ E fp w a p) (hall : ∀ j,j < M -> Λ.getD j false = true) :
  St C.RT E (r M).H fp w (r M).F a (r M).nx N /\ Step E0 H0 fp0 w0 nx0 E (r M).H fp w (r M).nx /\ (r p).H = (r M).H := by
 have hτ : (r p).τ = (r M).τ := by
  have hle := S.τ_le I.pn (Nat.le_refl _)
  rcases Nat.lt_or_ge (r p).τ (r M).τ with h | h
  ·exfalso
   have hl := S.tr.last
   rw [Nat.zero_add] at hl
   obtain ⟨_,gM,g2,oc,g3,g4,g5⟩ := S.tr.chI (r p).τ (chsF[(r p).τ]'(by omega)) (by simp) (by rw [List.getElem?_eq_getElem])
   have := (I.time _ oc (by omega) g3 g4 g5).1 (hall _ (by omega))
   omega
  ·omega
 obtain ⟨e1,e2⟩ := S.same_time I.pn (Nat.le_refl _) hτ
 have hsim' := I.sim
 have hstep' := I.step
 rw [e1] at hsim'
 rw [e1,e2] at hstep'
 refine ⟨⟨hsim',hstep'.fresh,fun t => ?_,I.asz,I.df⟩,hstep',e1⟩
 rcases S.frame M t (Nat.le_refl _) with ⟨m,o,h1,h2,h3,h4⟩ | ⟨h1,h2⟩
 ·rw [h4]
  exact I.got m o t h2 h3 (hall m h1)
 ·rw [h2]
  refine I.not t fun m o hm hd => ?_
  rcases Nat.lt_or_ge m M with h | h
  ·exact absurd hd (h1 m o h hm)
  ·exact I.pend m h
theorem Inv.doneBut (S : Setup C K ops k y F H nx N M r hsF chsF rdsF) (I : Inv C K ops F r N M E0 H0 fp0 w0 nx0 a0 Λ E fp w a p) {q : Nat} (hq : ∀ o,ops[q]? = some o -> isC K o = false) (hall : ∀ j,j < M -> j ≠ q -> Λ.getD j false = true) :
  Sim C.RT E (r M).H fp w /\ Step E0 H0 fp0 w0 nx0 E (r M).H fp w (r M).nx /\ (r p).H = (r M).H /\ ∀ t,(∀ o,ops[q]? = some o -> o.dst = some t -> Λ.getD q false = true) -> RV C.RT E ((r M).F t) (a.tmps.getD t undef) := by
 have hτ : (r p).τ = (r M).τ := by
  have hle := S.τ_le I.pn (Nat.le_refl _)
  rcases Nat.lt_or_ge (r p).τ (r M).τ with h | h
  ·exfalso
   have hl := S.tr.last
   rw [Nat.zero_add] at hl
   obtain ⟨_,gM,g2,oc,g3,g4,g5⟩ := S.tr.chI (r p).τ (chsF[(r p).τ]'(by omega)) (by simp) (by rw [List.getElem?_eq_getElem])
   have hne : chsF[(r p).τ]'(by omega) ≠ q := fun he => by
    rw [he] at g3
    rw [hq oc g3] at g4; simp at g4
   have := (I.time _ oc (by omega) g3 g4 g5).1 (hall _ (by omega) hne)
   omega
  ·omega
 obtain ⟨e1,e2⟩ := S.same_time I.pn (Nat.le_refl _) hτ
 have hsim' := I.sim
 have hstep' := I.step
 rw [e1] at hsim'
 rw [e1,e2] at hstep'
 refine ⟨hsim',hstep',e1,fun t ht => ?_⟩
 rcases S.frame M t (Nat.le_refl _) with ⟨m,o,h1,h2,h3,h4⟩ | ⟨h1,h2⟩
 ·rw [h4]
  refine I.got m o t h2 h3 ?_
  by_cases hm : m = q
  ·subst hm
   exact ht o h2 h3
  ·exact hall m h1 hm
 ·rw [h2]
  refine I.not t fun m o hm hd => ?_
  rcases Nat.lt_or_ge m M with h | h
  ·exact absurd hd (h1 m o h hm)
  ·exact I.pend m h
theorem Setup.start (S : Setup C K ops k y F H nx N M r hsF chsF rdsF) (st : St C.RT E H fp w F a nx N) :
  Inv C K ops F r N M E H fp w nx a (Array.replicate ops.size false) E fp { w with drawn := w.drawn + 1 } a 0 := by
 obtain ⟨s1,s2,s3,s4⟩ := S.tr.start
 have hdrew : Frm w (fun _ => False) { w with drawn := w.drawn + 1 } := Frm.drew w _
 have hsim : Sim C.RT E H fp { w with drawn := w.drawn + 1 } := st.sim.frm hdrew (fun _ _ h => h) (fun _ _ _ h => h)
 have hstep : Step E H fp w nx E H fp { w with drawn := w.drawn + 1 } nx := ⟨.refl E,Frm.drew w _,fun _ h _ => h,Nat.le_refl _,st.fresh,.refl _ _ _ _⟩
 have hrep : ∀ j,(Array.replicate ops.size false).getD j false = false := fun j => by
  rcases Nat.lt_or_ge j ops.size with hl | hl <;> simp [Array.getD,hl]
 refine ⟨by simp,fun j o hj hl => by rw [hrep] at hl; simp at hl,fun j _ => hrep j,Nat.zero_le _,fun c o _ hc hic hwd => ?_,by rw [s2]; exact hsim,by rw [s2,s3]; exact hstep,fun m o d hm hd hl => by rw [hrep] at hl; simp at hl,fun d _ => st.rf d,st.size,st.df,.refl _ _,fun m om e d _ _ _ _ hl => by rw [hrep] at hl; simp at hl⟩
 rw [s4,hrep]
 simp
theorem evDrawC_sound (hC : CfgOK C) {id n : Nat} {Q : Exit -> Act -> World -> Prop}
  (hk : gate (backEdges 0 ops.toList && (pairsOk ops.toList (ancsOf [] ops.toList) [] ops.toList && chainOk K (ancsOf [] ops.toList) [] ops.toList)) (evOpsA C K noInl ops.toList (ancsOf [] ops.toList) 0 ops.toList F H nx [H] [] [] k) = some y) (st : St C.RT E H fp w F a nx n) (hd : dstOps n ops.toList = true)
  (hQ : ∀ F' H' nx' E' fp' a' w',k F' H' nx' = some y -> St C.RT E' H' fp' w' F' a' nx' n -> Trip C E H fp w nx E' H' fp' w' nx' -> Same (asgOps ops.toList) a a' -> Q .normal a' w') :
  (Code.region id ops true).wp C.P Q a w := by
 rw [gate_some] at hk
 obtain ⟨hg,hk⟩ := hk
 simp only [Bool.and_eq_true] at hg
 obtain ⟨hb,hp,hch⟩ := hg
 obtain ⟨r,hsF,chsF,rdsF,tr⟩ := evOpsA_trace hC ops.toList 0 F H nx [H] [] [] hk rfl rfl (fun j _ => by simp)
 have S : Setup C K ops k y F H nx n ops.size r hsF chsF rdsF := ⟨hC,by simpa using tr,Nat.le_refl _,hb,hp,hch,hd⟩
 refine wp_region_any hC.wide (any_ok (E0:=E) (H0:=H) (fp0:=fp) (w0:=w) (nx0:=nx) (a0:=a) S ops.size (fun j h1 h2 => by omega) (fun fuel Λ E' fp' w' a' p hf I hall => ?_) ops.size _ E fp _ a 0 (by simp) (S.start st))
 have hfin := (checkRds_get S.tr.fin).1
 rw [Nat.zero_add] at hfin
 have hall : ∀ j,j < ops.size -> Λ.getD j false = true := fun j hj => hall j hj (by omega)
 obtain ⟨g1,g2,_⟩ := I.done S hall
 exact wpAny_done I.size hall fuel (hQ _ _ _ E' fp' a' w' hfin g1 g2.trip I.same)
end Go.Eng
/-
 The engine, part twelve (e): a region that makes slices in whatever order.
 Conditions: none; nothing is claimed of the program here.
-/
namespace Go.Eng
variable {RT : RoTab} {E : Env} {F : Fr} {a : Act} {H : Heap} {fp : Fp} {w : World} {P : Program} {Y : Type} {y : Y} {C : Cfg} {K : FCfg} {ops : Array Oper}
structure RecM where
 wd : Bool
 F : Fr
 G : Heap
 v : AV
def RecMOK (C : Cfg) (K : FCfg) (ops : Array Oper) (H : Heap) (nx i : Nat) (o : Oper) (r r' : RecM) : Prop :=
 r'.F = putO r.F o.dst r.v /\
 ((r.wd = false /\ WantIs ops o r.F false /\ r.v = .at .und /\ r'.G = r.G) \/
  (r.wd = true /\ WantIs ops o r.F true /\
  ((isMk K o = true /\ ∃ sl blk,evMk C r.F o.op (fun sl blk => some (sl,blk)) = some (sl,blk) /\ r.v = mkV sl (nx + i) /\ r'.G = putH r.G (nx + i) (some blk)) \/
   (isMk K o = false /\ evR C.P C.RT H r.F o.op some = some r.v /\ r'.G = r.G) \/
   (isMk K o = false /\ plainV r.v = true /\ (∃ H' n',evC C noInl (fun _ => none) (nx + ops.size) r.F o.op (fun v H n => some (v,H,n)) = some (r.v,H',n')) /\ r'.G = r.G))))
theorem mkA_cp {t : TypeId} {l c : AV} {k : IntKind -> List Int -> Option Y} (h : mkA P t l c k = some y) : ∃ kd xs,mkA P t l c (fun kd xs => some (kd,xs)) = some (kd,xs) /\ k kd xs = some y := by
 unfold mkA at h ⊢
 split at h
 ·split at h
  ·rw [gate_some,chk_some] at h
   obtain ⟨h1,h2,h3⟩ := h
   refine ⟨_,_,?_,h3⟩
   rw [gate_some,chk_some]
   exact ⟨h1,h2,rfl⟩
  ·simp at h
 ·simp at h
theorem evMk_cp {op : Op} {k : Bool -> Blk -> Option Y} (h : evMk C F op k = some y) : ∃ sl blk,evMk C F op (fun sl blk => some (sl,blk)) = some (sl,blk) /\ k sl blk = some y := by
 unfold evMk at h ⊢
 split at h
 ·obtain ⟨kd,xs,h1,h2⟩ := mkA_cp h
  refine ⟨true,.ints true kd xs,?_,h2⟩
  unfold mkA at h1 ⊢
  split at h1
  ·split at h1
   ·rw [gate_some,chk_some] at h1
    obtain ⟨g1,g2,g3⟩ := h1
    simp only [Option.some.injEq,Prod.mk.injEq] at g3
    obtain ⟨rfl,rfl⟩ := g3
    rw [gate_some,chk_some]
    exact ⟨g1,g2,rfl⟩
   ·simp at h1
  ·simp at h1
 ·split at h
  ·simp at h
  ·split at h
   ·exact ⟨_,_,rfl,h⟩
   ·simp at h
 ·simp at h
theorem evMks_trace (hC : CfgOK C) {H : Heap} {nx : Nat} {k : Fr -> Heap -> Option Y} : ∀ (os : List Oper) (i : Nat) (F : Fr) (G : Heap),
  evMks C K ops.toList H nx i os F G k = some y -> (∀ j,j < os.length -> os[j]? = ops[i + j]?) ->
  ∃ r : Nat -> RecM,(r i).F = F /\ (r i).G = G /\ (∀ j o,i <= j -> j < i + os.length -> ops[j]? = some o -> RecMOK C K ops H nx j o (r j) (r (j + 1))) /\ k (r (i + os.length)).F (r (i + os.length)).G = some y
 | [],i,F,G,hk,ho => by
  simp only [evMks] at hk
  exact ⟨fun _ => ⟨false,F,G,.at .unk⟩,rfl,rfl,fun j o hj hjl hjo => by simp at hjl; omega,hk⟩
 | o :: os,i,F,G,hk,ho => by
  have ho0 : ops[i]? = some o := by simpa using (ho 0 (by simp)).symm
  have ho' : ∀ j,j < os.length -> os[j]? = ops[i + 1 + j]? := fun j hj => by
   have := ho (j + 1) (by simp; omega)
   rw [show i + (j + 1) = i + 1 + j by omega] at this
   simpa using this
  have fin : ∀ (wd : Bool) (v : AV) (F' : Fr) (G' : Heap),evMks C K ops.toList H nx (i + 1) os F' G' k = some y ->
    (∀ r' : RecM,r'.F = F' -> r'.G = G' -> RecMOK C K ops H nx i o ⟨wd,F,G,v⟩ r') ->
    ∃ r : Nat -> RecM,(r i).F = F /\ (r i).G = G /\ (∀ j o',i <= j -> j < i + (o :: os).length -> ops[j]? = some o' -> RecMOK C K ops H nx j o' (r j) (r (j + 1))) /\ k (r (i + (o :: os).length)).F (r (i + (o :: os).length)).G = some y := by
   intro wd v F' G' hk' hok
   obtain ⟨r,r1,r2,r3,r4⟩ := evMks_trace hC os (i + 1) F' G' hk' ho'
   refine ⟨fun j => if j = i then ⟨wd,F,G,v⟩ else r j,by simp,by simp,fun j o' hj hjl hjo => ?_,?_⟩
   ·by_cases he : j = i
    ·subst he
     rw [ho0] at hjo
     obtain rfl := Option.some.inj hjo
     simp only [if_true,if_neg (show j + 1 ≠ j by omega)]
     exact hok _ r1 r2
    ·simp only [if_neg he,if_neg (show j + 1 ≠ i by omega)]
     exact r3 j o' (by omega) (by simp only [List.length_cons] at hjl; omega) hjo
   ·simp only [List.length_cons,if_neg (show i + (os.length + 1) ≠ i by omega)]
    rw [show i + (os.length + 1) = i + 1 + os.length by omega]
    exact r4
  simp only [evMks] at hk
  rcases evGuard_all hk with ⟨hw,hk⟩ | ⟨hw,hk⟩
  ·cases hm : isMk K o with
   | true =>
    simp only [hm] at hk
    obtain ⟨kd,xs,h1,h2⟩ := evMk_cp hk
    exact fin true _ _ _ h2 fun r' e1 e2 => ⟨e1,Or.inr ⟨rfl,hw,Or.inl ⟨hm,kd,xs,h1,rfl,e2⟩⟩⟩
   | false =>
    simp only [hm] at hk
    split at hk
    ·obtain ⟨⟨v,H',n'⟩,h1,h2⟩ := evC_cp hC hk
     rw [gate_some] at h2
     obtain ⟨hp,h2⟩ := h2
     rw [len_eq',Array.length_toList] at h1
     exact fin true v _ _ h2 fun r' e1 e2 => ⟨e1,Or.inr ⟨rfl,hw,Or.inr (Or.inr ⟨hm,hp,⟨H',n',h1⟩,e2⟩)⟩⟩
    ·rw [gate_some] at hk
     obtain ⟨_,hk⟩ := hk
     obtain ⟨v,h1,h2⟩ := evR_cp _ _ _ hk
     exact fin true v _ _ h2 fun r' e1 e2 => ⟨e1,Or.inr ⟨rfl,hw,Or.inr (Or.inl ⟨hm,h1,e2⟩)⟩⟩
  ·exact fin false _ _ _ hk fun r' e1 e2 => ⟨e1,Or.inl ⟨rfl,hw,rfl,e2⟩⟩
structure SetM (C : Cfg) (K : FCfg) (ops : Array Oper) (F : Fr) (H : Heap) (nx N M : Nat) (r : Nat -> RecM) : Prop where
 hC : CfgOK C
 F0 : (r 0).F = F
 G0 : (r 0).G = H
 hM : M <= ops.size
 step : ∀ j o,j < M -> ops[j]? = some o -> RecMOK C K ops H nx j o (r j) (r (j + 1))
 back : backEdges 0 ops.toList = true
 pairs : pairsOk ops.toList (ancsOf [] ops.toList) [] ops.toList = true
 dst : dstOps N ops.toList = true
variable {nx N M : Nat} {r : Nat -> RecM}
theorem SetM.frame (S : SetM C K ops F H nx N M r) : ∀ (j t : Nat),j <= M ->
  (∃ m o,m < j /\ ops[m]? = some o /\ o.dst = some t /\ (r j).F t = (r m).v) \/ ((∀ m o,m < j -> ops[m]? = some o -> o.dst ≠ some t) /\ (r j).F t = F t)
 | 0,t,_ => Or.inr ⟨fun m o h => by omega,by rw [S.F0]⟩
 | j + 1,t,hj => by
  have hlt : j < ops.size := by have := S.hM; omega
  have hoj : ops[j]? = some ops[j] := by simp [hlt]
  have hF : (r (j + 1)).F = putO (r j).F ops[j].dst (r j).v := (S.step j _ (by omega) hoj).1
  by_cases hd : ops[j].dst = some t
  ·refine Or.inl ⟨j,_,by omega,hoj,hd,?_⟩
   rw [hF,hd]
   simp only [putO,putF_same]
  ·have hFt : (r (j + 1)).F t = (r j).F t := by
    rw [hF]
    cases hdd : ops[j].dst with
    | none => rfl
    | some d =>
     simp only [putO]
     exact putF_other fun he => hd (by rw [hdd,he])
   rcases S.frame j t (by omega) with ⟨m,o,h1,h2,h3,h4⟩ | ⟨h1,h2⟩
   ·exact Or.inl ⟨m,o,by omega,h2,h3,by rw [hFt,h4]⟩
   ·refine Or.inr ⟨fun m o hm ho => ?_,by rw [hFt,h2]⟩
    by_cases he : m = j
    ·subst he
     rw [hoj] at ho
     obtain rfl := Option.some.inj ho
     exact hd
    ·exact h1 m o (by omega) ho
theorem SetM.pair (S : SetM C K ops F H nx N M r) {i m : Nat} {x b : Oper} (hx : ops[i]? = some x) (hb : ops[m]? = some b) (him : i < m) :
  pairOk ops.toList (bit (nthD 0 (ancsOf [] ops.toList) m) i) x b = true := by
 have ha := anc_get hb
 have := pairsOk_get S.pairs anc_len m i b x _ (by simpa using hb) ha (by simpa using hx) (by simpa using him)
 rwa [show nthD 0 (ancsOf [] ops.toList) m = edgesOf ((ancsOf [] ops.toList).take m) b.after.toList by rw [nthD_eq,List.getD_eq_getElem?_getD,ha]; rfl]
theorem SetM.dst_ne (S : SetM C K ops F H nx N M r) {i m : Nat} {x b : Oper} {d : Tmp} (hx : ops[i]? = some x) (hb : ops[m]? = some b) (hxd : x.dst = some d) (hbd : b.dst = some d) : i = m := by
 have key : ∀ {i m : Nat} {x b : Oper},ops[i]? = some x -> ops[m]? = some b -> x.dst = some d -> b.dst = some d -> ¬ i < m := by
  intro i m x b hx hb hxd hbd him
  have := S.pair hx hb him
  unfold pairOk at this
  rw [eqO_some hxd hbd] at this
  simp at this
 have h1 := key hx hb hxd hbd
 have h2 := key hb hx hbd hxd
 omega
theorem SetM.G_low (S : SetM C K ops F H nx N M r) : ∀ j,j <= M -> ∀ id,nx + j <= id \/ id < nx -> (r j).G id = H id
 | 0,_,id,_ => by rw [S.G0]
 | j + 1,hj,id,hid => by
  have hlt : j < ops.size := by have := S.hM; omega
  have hoj : ops[j]? = some ops[j] := by simp [hlt]
  have ih := S.G_low j (by omega) id (by omega)
  rcases (S.step j _ (by omega) hoj).2 with ⟨_,_,_,h⟩ | ⟨_,_,⟨_,kd,xs,_,_,h⟩ | ⟨_,_,h⟩ | ⟨_,_,_,h⟩⟩
  ·rw [h]; exact ih
  ·rw [h,putH_eq,if_neg (by omega)]; exact ih
  ·rw [h]; exact ih
  ·rw [h]; exact ih
theorem SetM.G_high (S : SetM C K ops F H nx N M r) {j : Nat} : ∀ d,j + d <= M -> ∀ id,id < nx + j -> (r (j + d)).G id = (r j).G id
 | 0,_,id,_ => rfl
 | d + 1,hj,id,hid => by
  have hlt : j + d < ops.size := by have := S.hM; omega
  have hoj : ops[j + d]? = some ops[j + d] := by simp [hlt]
  have ih := S.G_high (j:=j) d (by omega) id hid
  rw [show j + (d + 1) = j + d + 1 by omega]
  rcases (S.step (j + d) _ (by omega) hoj).2 with ⟨_,_,_,h⟩ | ⟨_,_,⟨_,kd,xs,_,_,h⟩ | ⟨_,_,h⟩ | ⟨_,_,_,h⟩⟩
  ·rw [h]; exact ih
  ·rw [h,putH_eq,if_neg (by omega)]; exact ih
  ·rw [h]; exact ih
  ·rw [h]; exact ih
theorem SetM.G_at (S : SetM C K ops F H nx N M r) {i : Nat} (hi : i < M) : (r M).G (nx + i) = (r (i + 1)).G (nx + i) := by
 have := S.G_high (j:=i + 1) (M - (i + 1)) (by omega) (nx + i) (by omega)
 rwa [show i + 1 + (M - (i + 1)) = M by omega] at this
def HL (G : Heap) (nx : Nat) (Λ : Array Bool) : Heap := fun id => if nx <= id /\ Λ.getD (id - nx) false = false then none else G id
structure InvM (C : Cfg) (K : FCfg) (ops : Array Oper) (F : Fr) (r : Nat -> RecM) (N M : Nat) (E0 : Env) (H0 : Heap) (fp0 : Fp) (w0 : World) (nx : Nat) (a0 : Act) (Λ : Array Bool) (E : Env) (fp : Fp) (w : World) (a : Act) : Prop where
 size : Λ.size = ops.size
 pend : ∀ j,M <= j -> Λ.getD j false = false
 closed : ∀ j o,ops[j]? = some o -> Λ.getD j false = true -> ∀ e ∈ o.after,bindsAny e.ground = true -> Λ.getD e.on false = true
 sim : Sim C.RT E (HL (r M).G nx Λ) fp w
 le : E0.Le E
 mem : ∀ a v,E.M a = some v -> E0.M a = some v
 free : ∀ id,nx <= id -> Λ.getD (id - nx) false = false -> E.info id = none
 frm : Frm w0 (fun _ => False) w
 own : ∀ x,OwnAll (HL (r M).G nx Λ) fp x -> x.1 < w0.heap.size -> OwnAll H0 fp0 x
 got : ∀ m o d,ops[m]? = some o -> o.dst = some d -> Λ.getD m false = true -> RV C.RT E (r m).v (a.tmps.getD d undef)
 not : ∀ d,(∀ m o,ops[m]? = some o -> o.dst = some d -> Λ.getD m false = false) -> RV C.RT E (F d) (a.tmps.getD d undef)
 asz : a.tmps.size = N
 df : a.defers = []
 same : Same (asgOps ops.toList) a0 a
variable {E0 : Env} {fp0 : Fp} {w0 : World} {a0 : Act} {Λ : Array Bool}
theorem InvM.sees (S : SetM C K ops F H nx N M r) (I : InvM C K ops F r N M E0 H fp0 w0 nx a0 Λ E fp w a) {i : Nat} {o : Oper} (ho : ops[i]? = some o) (hiM : i <= M) (hun : Λ.getD i false = false)
  (hed : ∀ e ∈ o.after,bindsAny e.ground = true -> Λ.getD e.on false = true) {t : Tmp} (ht : t ∈ eyes ops.toList o) : RV C.RT E ((r i).F t) (a.tmps.getD t undef) := by
 have hdone := anc_done S.back I.closed (i + 1) i o (by omega) ho hed
 rcases S.frame i t hiM with ⟨m,om,h1,h2,h3,h4⟩ | ⟨h1,h2⟩
 ·rw [h4]
  refine I.got m om t h2 h3 (hdone m ?_)
  have := S.pair h2 ho h1
  unfold pairOk at this
  rw [memO_some h3 ht] at this
  simp only [Bool.not_true,Bool.false_and,Bool.or_false,Bool.and_eq_true] at this
  exact this.2
 ·rw [h2]
  refine I.not t fun m om hm hd => ?_
  have hmi : ¬ m < i := fun h => h1 m om h hm hd
  rcases Nat.lt_or_ge i m with him | him
  ·have := S.pair ho hm him
   unfold pairOk at this
   rw [memO_some hd ht] at this
   simp only [Bool.not_true,Bool.and_false,Bool.or_false,Bool.and_eq_true] at this
   cases hl : Λ.getD m false with
   | false => rfl
   | true =>
    have := anc_done S.back I.closed (m + 1) m om (by omega) hm (I.closed m om hm hl) i this.2
    rw [hun] at this; simp at this
  ·have : m = i := by omega
   rw [this]; exact hun
theorem InvM.next (S : SetM C K ops F H nx N M r) (I : InvM C K ops F r N M E0 H fp0 w0 nx a0 Λ E fp w a) {i : Nat} {o : Oper} (ho : ops[i]? = some o) (hiM : i < M)
  (hed : ∀ e ∈ o.after,bindsAny e.ground = true -> Λ.getD e.on false = true) {E' : Env} {fp' : Fp} {w' : World} {u : Value} (hle : E.Le E') (hM : ∀ a v,E'.M a = some v -> E.M a = some v)
  (hfree : ∀ id,nx <= id -> (Λ.setIfInBounds i true).getD (id - nx) false = false -> E'.info id = none) (hfrm : Frm w (fun _ => False) w')
  (hown : ∀ x,OwnAll (HL (r M).G nx (Λ.setIfInBounds i true)) fp' x -> x.1 < w.heap.size -> OwnAll (HL (r M).G nx Λ) fp x)
  (hs' : Sim C.RT E' (HL (r M).G nx (Λ.setIfInBounds i true)) fp' w') (hv : RV C.RT E' (r i).v u) :
  InvM C K ops F r N M E0 H fp0 w0 nx a0 (Λ.setIfInBounds i true) E' fp' w' (a.put o.dst u) := by
 have hi := op_lt ho
 have hdl : ∀ d,o.dst = some d -> d < a.tmps.size := by
  intro d hd
  rw [I.asz]
  have key : ∀ l : List Oper,dstOps N l = true -> o ∈ l -> d < N := by
   intro l
   induction l with
   | nil => intro _ h; simp at h
   | cons x l ih =>
    intro h hm
    obtain ⟨h1,h2⟩ := dstOps_cons h
    rcases List.mem_cons.1 hm with rfl | hm
    ·exact h1 d hd
    ·exact ih h2 hm
  exact key _ S.dst (by simpa using Array.mem_of_getElem? ho)
 have hself : (Λ.setIfInBounds i true).getD i false = true := getD_set_self (by rw [I.size]; exact hi)
 refine ⟨by simp [I.size],fun j hj => by rw [getD_set_ne false (by omega)]; exact I.pend j hj,fun j oj hj hl e he hb => ?_,hs',I.le.trans hle,fun a v h => I.mem a v (hM a v h),hfree,I.frm.trans hfrm (fun _ h => by simp at h),
  fun x hx hlt => I.own x (hown x hx (Nat.lt_of_lt_of_le hlt I.frm.size)) hlt,fun m om d hm hd hl => ?_,fun d hd => ?_,by rw [Act.put_size]; exact I.asz,by cases o.dst <;> exact I.df,?_⟩
 ·by_cases hij : i = j
  ·subst hij
   rw [ho] at hj
   obtain rfl := Option.some.inj hj
   exact getD_set_true (hed e he hb)
  ·rw [getD_set_ne false hij] at hl
   exact getD_set_true (I.closed j oj hj hl e he hb)
 ·by_cases him : i = m
  ·subst him
   rw [ho] at hm
   obtain rfl := Option.some.inj hm
   rw [hd]
   simp only [Act.put]
   rw [getD_set_same (hdl d hd)]
   exact hv
  ·rw [getD_set_ne false him] at hl
   have hne : o.dst ≠ some d := fun h => him (S.dst_ne ho hm h hd)
   have : (a.put o.dst u).tmps.getD d undef = a.tmps.getD d undef := by
    cases hod : o.dst with
    | none => rfl
    | some d' =>
     simp only [Act.put]
     exact getD_set_other fun he => hne (by rw [hod,he])
   rw [this]
   exact (I.got m om d hm hd hl).mono hle
 ·have hne : o.dst ≠ some d := fun h => by
   have := hd i o ho h
   rw [hself] at this
   simp at this
  have : (a.put o.dst u).tmps.getD d undef = a.tmps.getD d undef := by
   cases hod : o.dst with
   | none => rfl
   | some d' =>
    simp only [Act.put]
    exact getD_set_other fun he => hne (by rw [hod,he])
  rw [this]
  refine (I.not d fun m om hm hdm => ?_).mono hle
  have := hd m om hm hdm
  by_cases him : i = m
  ·subst him; rw [hself] at this; simp at this
  ·rwa [getD_set_ne false him] at this
 ·refine I.same.trans ((Same.put a o.dst u).mono fun j hj => ?_)
  have key : ∀ l : List Oper,o ∈ l -> asgOps l j = true := by
   intro l
   induction l with
   | nil => intro h; simp at h
   | cons x l ih =>
    intro hm
    rcases List.mem_cons.1 hm with rfl | hm
    ·exact asgOps_head hj
    ·exact asgOps_tail (ih hm)
  exact key _ (by simpa using Array.mem_of_getElem? ho)
theorem InvM.still (S : SetM C K ops F H nx N M r) (hnone : ∀ id,nx <= id -> H id = none) (I : InvM C K ops F r N M E0 H fp0 w0 nx a0 Λ E fp w a) {i : Nat} {o : Oper} (ho : ops[i]? = some o) (hiM : i < M) {w' : World} (hfr : Frm w (fun _ => False) w')
  (hed : ∀ e ∈ o.after,bindsAny e.ground = true -> Λ.getD e.on false = true) {u : Value} (hG : (r (i + 1)).G = (r i).G) (hv : RV C.RT E (r i).v u) :
  InvM C K ops F r N M E0 H fp0 w0 nx a0 (Λ.setIfInBounds i true) E fp w' (a.put o.dst u) := by
 have hi := op_lt ho
 have hGi : (r M).G (nx + i) = none := by
  rw [S.G_at hiM,hG,S.G_low i (by omega) _ (Or.inl (Nat.le_refl _)),hnone _ (by omega)]
 have hHL : HL (r M).G nx (Λ.setIfInBounds i true) = HL (r M).G nx Λ := by
  funext id
  unfold HL
  by_cases he : id = nx + i
  ·subst he
   rw [hGi]
   simp
  ·by_cases hn : nx <= id
   ·rw [getD_set_ne false (by omega)]
   ·rw [if_neg (by omega),if_neg (by omega)]
 refine I.next S ho hiM hed (.refl E) (fun _ _ h => h) (fun id h0 h1 => ?_) hfr (fun x hx _ => by rw [hHL] at hx; exact hx) (by rw [hHL]; exact I.sim.frm hfr (fun _ _ h => h) (fun _ _ _ h => h)) hv
 by_cases he : id - nx = i
 ·rw [he,getD_set_self (by rw [I.size]; exact hi)] at h1
  simp at h1
 ·rw [getD_set_ne false (fun h => he h.symm)] at h1
  exact I.free id h0 h1
theorem evMk_sound {o : Oper} {b : Nat} {k : Bool -> Blk -> Option Y} (hs : Sim RT E H fp w) (hf : E.info b = none) (hr : RF RT E F a) (hk : evMk C F o.op k = some y) :
  ∃ sl blk I u w',k sl blk = some y /\ (execOp a.eval o).run C.P w = .ok (.value u) w' /\ RV RT (putI E b I) (mkV sl b) u /\
   Sim RT (putI E b I) (putH H b (some blk)) (putFp fp b (Own I)) w' /\ Frm w (fun _ => False) w' /\ I.cb = w.heap.size := by
 unfold evMk at hk
 split at hk
 ·rename_i t l c ho
  obtain ⟨kd,xs,I,u,w',h1,h2,h3⟩ := mk_sound (P:=C.P) hs hf (opd_sound hr l) (opd_sound hr c) hk
  refine ⟨true,_,I,u,w',h1,?_,h3⟩
  unfold execOp
  simp only [ho]
  simp only [Sem.run_bind,h2,Result.andThen_ok,Sem.run_pure]
 ·rename_i e ho
  split at hk
  ·simp at hk
  ·split at hk
   ·rename_i z hz
    obtain ⟨I,u,w',h2,h3⟩ := alloc_at (P:=C.P) hs hf hz
    refine ⟨false,_,I,u,w',hk,?_,h3⟩
    unfold execOp
    simp only [ho]
    simp only [Sem.run_bind,h2,Result.andThen_ok,Sem.run_pure]
   ·simp at hk
 ·simp at hk
theorem plainV_R {E' : Env} {v : AV} {u : Value} (hp : plainV v = true) (h : RV RT E v u) : RV RT E' v u := by
 unfold plainV at hp
 split at hp
 ·have h' : R RT E (.int _ _) u := h
  rw [R.int_inv h']; exact R.int _ _
 ·have h' : R RT E (.bool _) u := h
  rw [R.bool_inv h']; exact R.bool _
 ·simp at hp
theorem InvM.op (S : SetM C K ops F H nx N M r) (hnone : ∀ id,nx <= id -> H id = none) (I : InvM C K ops F r N M E0 H fp0 w0 nx a0 Λ E fp w a) {i : Nat} {o : Oper} (ho : ops[i]? = some o) (hiM : i < M) (hun : Λ.getD i false = false)
  (hed : ∀ e ∈ o.after,bindsAny e.ground = true -> Λ.getD e.on false = true) {Q : Exit -> Act -> World -> Prop} {Kk : Act -> World -> Prop}
  (hK : ∀ E' fp' w' a',InvM C K ops F r N M E0 H fp0 w0 nx a0 (Λ.setIfInBounds i true) E' fp' w' a' -> Kk a' w') : wpOp C.P ops Q i Kk a w := by
 have hi := op_lt ho
 have hG : GuardRel ops o C.RT E (r i).F a := fun g want d hg hd => I.sees S ho (Nat.le_of_lt hiM) hun hed (eyes_guard hg hd)
 have hrf : RF C.RT E (only o.op.operands (r i).F) a := only_rf fun t ht => I.sees S ho (Nat.le_of_lt hiM) hun hed (eyes_opd ht)
 have hco : ∀ x ∈ o.op.operands,evOpd (r i).F x = evOpd (only o.op.operands (r i).F) x := fun x hx => (only_opd hx).symm
 unfold wpOp
 simp only [ho]
 rcases (S.step i o hiM ho).2 with ⟨h1,h2,h3,h4⟩ | ⟨h1,h2,⟨hm,kd,xs,hev,hv,hgr⟩ | ⟨hm,hev,hgr⟩ | ⟨hm,hpl,⟨H',n',hev⟩,hgr⟩⟩
 ·rw [if_neg (by rw [h2 _ _ _ hG]; simp)]
  exact hK E fp w _ (I.still S hnone ho hiM (Frm.refl w _) hed h4 (by rw [h3]; exact R.und))
 ·rw [if_pos (h2 _ _ _ hG)]
  left
  have hev' : evMk C (only o.op.operands (r i).F) o.op (fun sl blk => some (sl,blk)) = some (kd,xs) := by
   rw [<- hev]
   unfold evMk
   split
   ·rename_i t l c hop
    rw [hco l (by rw [hop]; simp [Op.operands]),hco c (by rw [hop]; simp [Op.operands])]
   ·rfl
   ·rfl
  have hfr := I.free (nx + i) (by omega) (by rw [Nat.add_sub_cancel_left]; exact hun)
  obtain ⟨kd',xs',J,u,w',g1,g2,g3,g4,g5,g6⟩ := evMk_sound (b:=nx + i) I.sim hfr hrf hev'
  simp only [Option.some.injEq,Prod.mk.injEq] at g1
  obtain ⟨rfl,rfl⟩ := g1
  unfold Oper.wp
  rw [g2]
  have hGi : (r M).G (nx + i) = some xs' := by rw [S.G_at hiM,hgr,putH_eq,if_pos rfl]
  have hHL : HL (r M).G nx (Λ.setIfInBounds i true) = putH (HL (r M).G nx Λ) (nx + i) (some xs') := by
   funext id
   rw [putH_eq]
   by_cases he : id = nx + i
   ·subst he
    rw [if_pos rfl]
    unfold HL
    rw [Nat.add_sub_cancel_left,getD_set_self (by rw [I.size]; exact hi),if_neg (by simp)]
    exact hGi
   ·rw [if_neg he]
    unfold HL
    by_cases hn : nx <= id
    ·rw [getD_set_ne false (by omega)]
    ·rw [if_neg (by omega),if_neg (by omega)]
  refine hK _ _ w' _ (I.next S ho hiM hed (putI_le hfr) (fun _ _ h => h) (fun id h0 h1 => ?_) g5 (fun x hx hlt => ?_) (by rw [hHL]; exact g4) (by rw [hv]; exact g3))
  ·by_cases he : id - nx = i
   ·rw [he,getD_set_self (by rw [I.size]; exact hi)] at h1
    simp at h1
   ·rw [getD_set_ne false (fun h => he h.symm)] at h1
    simp only [putI]
    rw [if_neg (by omega)]
    exact I.free id h0 h1
  ·obtain ⟨id,b,hb,hx⟩ := hx
   rw [hHL,putH_eq] at hb
   simp only [putFp] at hx
   split at hb
   ·rename_i he
    rw [if_pos he] at hx
    have := hx.1
    omega
   ·rename_i he
    rw [if_neg he] at hx
    exact ⟨id,b,hb,hx⟩
 ·rw [if_pos (h2 _ _ _ hG)]
  left
  rw [evR_congr hco] at hev
  have hsub : Sim C.RT E H fp w := I.sim.sub fun id b hb => by
   unfold HL
   rw [if_neg (fun h => by have := hnone id h.1; rw [this] at hb; simp at hb)]
   have hlt : id < nx := by
    rcases Nat.lt_or_ge id nx with h | h
    ·exact h
    ·rw [hnone id h] at hb; simp at hb
   rw [S.G_low _ (Nat.le_refl _) id (Or.inr hlt)]
   exact hb
  obtain ⟨v,u,g1,g2,g3⟩ := evR_sound hrf hsub hev
  simp only [Option.some.injEq] at g1
  unfold Oper.wp
  rw [g2]
  exact hK E fp w _ (I.still S hnone ho hiM (Frm.refl w _) hed hgr (by rw [<- g1]; exact g3))
 ·rw [if_pos (h2 _ _ _ hG)]
  left
  rw [evC_congr hco] at hev
  have hsub : Sim C.RT E (fun _ => none) fp w := I.sim.sub fun id b hb => by simp at hb
  have hfresh : Fresh E (nx + ops.size) := fun id hid => I.free id (by omega) (by
   have : ¬ id - nx < Λ.size := by rw [I.size]; omega
   simp [Array.getD,this])
  refine evC_sound S.hC noInl_ok hsub hfresh hrf hev fun v u H1 nx1 E1 fp1 w1 g1 g2 _ g4 => ?_
  simp only [Option.some.injEq,Prod.mk.injEq] at g1
  obtain ⟨rfl,_,_⟩ := g1
  exact hK E fp w1 _ (I.still S hnone ho hiM (g4.frm.mono fun x hx => by obtain ⟨id,b,hb,_⟩ := hx; simp at hb) hed hgr (plainV_R hpl g2))
theorem lastSt_some : ∀ {l init : List Oper} {o : Oper},lastSt l = some (init,o) -> l = init ++ [o] /\ o.guard = none
 | [],_,_,h => by simp [lastSt] at h
 | [o'],init,o,h => by
  simp only [lastSt] at h
  split at h
  ·rename_i hg
   simp only [Option.some.injEq,Prod.mk.injEq] at h
   obtain ⟨rfl,rfl⟩ := h
   exact ⟨rfl,hg⟩
  ·simp at h
 | o' :: o'' :: os,init,o,h => by
  simp only [lastSt] at h
  split at h
  ·rename_i l x hl
   simp only [Option.some.injEq,Prod.mk.injEq] at h
   obtain ⟨rfl,rfl⟩ := h
   obtain ⟨h1,h2⟩ := lastSt_some hl
   exact ⟨by rw [h1]; rfl,h2⟩
  ·simp at h
theorem anyM_ok (S : SetM C K ops F H nx N M r) (hnone : ∀ id,nx <= id -> H id = none) {Q : Exit -> Act -> World -> Prop}
  (hfin : ∀ Λ E fp w a,InvM C K ops F r N M E0 H fp0 w0 nx a0 Λ E fp w a -> (∀ j,j < ops.size -> Λ.getD j false = true) -> Q .normal a w)
  (hst : M < ops.size -> M + 1 = ops.size /\ coversAll (nthD 0 (ancsOf [] ops.toList) M) M = true /\
   ∀ Λ E fp w a Kk,InvM C K ops F r N M E0 H fp0 w0 nx a0 Λ E fp w a -> (∀ j,j < M -> Λ.getD j false = true) -> (∀ a w,Q .normal a w -> Kk a w) -> wpOp C.P ops Q M Kk a w) :
  ∀ (fuel : Nat) (Λ : Array Bool) (E : Env) (fp : Fp) (w : World) (a : Act),Λ.toList.count false <= fuel -> InvM C K ops F r N M E0 H fp0 w0 nx a0 Λ E fp w a -> wpAny C.P .any ops Q fuel Λ a w
 | 0,Λ,E,fp,w,a,hf,I => by
  have hall : ∀ j,j < ops.size -> Λ.getD j false = true := by
   intro j hj
   have hlt : j < Λ.size := by rw [I.size]; exact hj
   cases hl : Λ.getD j false with
   | true => rfl
   | false =>
    have hm : false ∈ Λ.toList := by
     simp [hlt] at hl
     rw [<- hl]
     simp
    have := List.count_pos_iff.2 hm
    omega
  exact ⟨ready_none I.size hall,hfin Λ E fp w a I hall⟩
 | fuel + 1,Λ,E,fp,w,a,hf,I => by
  refine ⟨fun hr => hfin Λ E fp w a I fun j hj => least_ready S.back I.size hr (j + 1) j (by omega) hj,fun i hi => ?_⟩
  rw [mem_ready] at hi
  obtain ⟨h1,o,ho,hed⟩ := hi
  have hlt : i < Λ.size := by rw [I.size]; exact op_lt ho
  have hio := op_lt ho
  have hun : Λ.getD i false = false := by simp [hlt] at h1 ⊢; exact h1
  have hed' : ∀ e ∈ o.after,bindsAny e.ground = true -> Λ.getD e.on false = true := fun e he hb => hed e he (by rw [binds_eq]; exact hb)
  rcases Nat.lt_or_ge i M with hiM | hiM
  ·refine I.op S hnone ho hiM hun hed' fun E' fp' w' a' I' => anyM_ok S hnone hfin hst fuel _ E' fp' w' a' ?_ I'
   have hli : Λ.toList[i]'(by simpa using hlt) = false := by simp [hlt] at hun; simpa using hun
   rw [Array.toList_setIfInBounds,List.count_set (by simpa using hlt)]
   rw [hli]
   have e1 : (false == false) = true := rfl
   have e2 : ¬ (true == false) = true := by decide
   rw [if_pos e1,if_neg e2]
   omega
  ·obtain ⟨g1,g2,g3⟩ := hst (by omega)
   have hi : i = M := by omega
   subst hi
   have hdone := anc_done S.back I.closed (i + 1) i o (by omega) ho hed'
   have hall : ∀ j,j < i -> Λ.getD j false = true := fun j hj => hdone j (coversAll_get g2 hj)
   refine g3 Λ E fp w a _ I hall fun a' w' hq => wpAny_done (by simp [I.size]) (fun j hj => ?_) fuel hq
   by_cases hji : i = j
   ·subst hji; exact getD_set_self hlt
   ·exact getD_set_true (hall j (by omega))
theorem InvM.done (S : SetM C K ops F H nx N M r) (hnone : ∀ id,nx <= id -> H id = none) (I : InvM C K ops F r N M E0 H fp0 w0 nx a0 Λ E fp w a) (hall : ∀ j,j < M -> Λ.getD j false = true) :
  St C.RT E (r M).G fp w (r M).F a (nx + ops.size) N /\ Step E0 H fp0 w0 nx E (r M).G fp w (nx + ops.size) := by
 have hHL : HL (r M).G nx Λ = (r M).G := by
  funext id
  unfold HL
  by_cases h : nx <= id /\ Λ.getD (id - nx) false = false
  ·rw [if_pos h]
   rcases Nat.lt_or_ge (id - nx) M with hl | hl
   ·have := hall _ hl; rw [this] at h; simp at h
   ·rw [S.G_low M (Nat.le_refl _) id (Or.inl (by omega)),hnone id h.1]
  ·rw [if_neg h]
 have hsim' := I.sim
 have hown := I.own
 rw [hHL] at hsim' hown
 have hfresh : Fresh E (nx + ops.size) := fun id hid => I.free id (by omega) (by
  have : ¬ id - nx < Λ.size := by rw [I.size]; omega
  simp [Array.getD,this])
 refine ⟨⟨hsim',hfresh,fun t => ?_,I.asz,I.df⟩,⟨I.le,I.frm.mono fun _ h => by simp at h,hown,by omega,hfresh,fun a v h => Or.inl (I.mem a v h)⟩⟩
 rcases S.frame M t (Nat.le_refl _) with ⟨m,o,h1,h2,h3,h4⟩ | ⟨h1,h2⟩
 ·rw [h4]
  exact I.got m o t h2 h3 (hall m h1)
 ·rw [h2]
  refine I.not t fun m o hm hd => ?_
  rcases Nat.lt_or_ge m M with hl | hl
  ·exact absurd hd (h1 m o hl hm)
  ·exact I.pend m hl
theorem SetM.start (S : SetM C K ops F H nx N M r) (st : St C.RT E H fp w F a nx N) :
  InvM C K ops F r N M E H fp w nx a (Array.replicate ops.size false) E fp { w with drawn := w.drawn + 1 } a := by
 have hnone : ∀ id,nx <= id -> H id = none := fun id h => fresh_heap st.sim st.fresh h
 have hdrew : Frm w (fun _ => False) { w with drawn := w.drawn + 1 } := Frm.drew w _
 have hsim : Sim C.RT E H fp { w with drawn := w.drawn + 1 } := st.sim.frm hdrew (fun _ _ h => h) (fun _ _ _ h => h)
 have hrep : ∀ j,(Array.replicate ops.size false).getD j false = false := fun j => by
  rcases Nat.lt_or_ge j ops.size with hl | hl
  ·simp [Array.getD,hl]
  ·simp [Array.getD,hl]
 have hHL : HL (r M).G nx (Array.replicate ops.size false) = H := by
  funext id
  unfold HL
  by_cases h : nx <= id
  ·rw [if_pos ⟨h,hrep _⟩,hnone id h]
  ·rw [if_neg (fun hh => h hh.1),S.G_low M (Nat.le_refl _) id (Or.inr (by omega))]
 refine ⟨by simp,fun j _ => hrep j,fun j o hj hl => ?_,by rw [hHL]; exact hsim,.refl E,fun _ _ h => h,fun id h0 _ => st.fresh id h0,hdrew,fun x hx _ => by rw [hHL] at hx; exact hx,fun m o d hm hd hl => ?_,fun d _ => st.rf d,st.size,st.df,.refl _ _⟩
 ·rw [hrep] at hl; simp at hl
 ·rw [hrep] at hl; simp at hl
theorem dst_lt {n : Nat} {o : Oper} {d : Tmp} : ∀ {l : List Oper},dstOps n l = true -> o ∈ l -> o.dst = some d -> d < n
 | [],_,h,_ => by simp at h
 | x :: l,h,hm,hd => by
  obtain ⟨h1,h2⟩ := dstOps_cons h
  rcases List.mem_cons.1 hm with rfl | hm
  ·exact h1 d hd
  ·exact dst_lt h2 hm hd
theorem asg_mem {o : Oper} {j : Nat} (hj : eqO o.dst (some j) = true) : ∀ {l : List Oper},o ∈ l -> asgOps l j = true
 | [],h => by simp at h
 | x :: l,hm => by
  rcases List.mem_cons.1 hm with rfl | hm
  ·exact asgOps_head hj
  ·exact asgOps_tail (asg_mem hj hm)
theorem evDrawM_sound (hC : CfgOK C) {k : KS Y} {id n : Nat} {Q : Exit -> Act -> World -> Prop}
  (hk : evDrawM C K ops.toList F H nx k = some y) (st : St C.RT E H fp w F a nx n) (hd : dstOps n ops.toList = true)
  (hQ : ∀ F' H' nx' E' fp' a' w',k F' H' nx' = some y -> St C.RT E' H' fp' w' F' a' nx' n -> Trip C E H fp w nx E' H' fp' w' nx' -> Same (asgOps ops.toList) a a' -> Q .normal a' w') :
  (Code.region id ops true).wp C.P Q a w := by
 unfold evDrawM at hk
 rw [gate_some] at hk
 obtain ⟨hg,hk⟩ := hk
 simp only [Bool.and_eq_true] at hg
 obtain ⟨hb,hp⟩ := hg
 have hnone : ∀ id,nx <= id -> H id = none := fun id h => fresh_heap st.sim st.fresh h
 split at hk
 ·obtain ⟨r,r1,r2,r3,r4⟩ := evMks_trace hC ops.toList 0 F H hk (fun j _ => by simp)
  rw [Nat.zero_add] at r4
  simp only [Array.length_toList] at r4
  rw [len_eq'] at r4
  simp only [Array.length_toList] at r4
  have S : SetM C K ops F H nx n ops.size r := ⟨hC,r1,r2,Nat.le_refl _,fun j o hj ho => r3 j o (Nat.zero_le _) (by simpa using hj) ho,hb,hp,hd⟩
  refine wp_region_any hC.wide (anyM_ok (E0:=E) (fp0:=fp) (w0:=w) (a0:=a) S hnone (fun Λ E' fp' w' a' I hall => ?_) (fun h => absurd h (Nat.lt_irrefl _)) ops.size _ E fp _ a (by simp) (S.start st))
  obtain ⟨g1,g2⟩ := I.done S hnone hall
  exact hQ _ _ _ E' fp' a' w' r4 g1 g2.trip I.same
 ·rename_i init o hl
  obtain ⟨h1,h2⟩ := lastSt_some hl
  rw [gate_some] at hk
  obtain ⟨hcov,hk⟩ := hk
  have hsz : ops.size = init.length + 1 := by
   have := congrArg List.length h1
   simpa using this
  have hget : ∀ j,j < init.length -> init[j]? = ops[0 + j]? := fun j hj => by
   rw [Nat.zero_add,<- Array.getElem?_toList,h1,List.getElem?_append_left hj]
  have hgo : ops[init.length]? = some o := by
   rw [<- Array.getElem?_toList,h1]; simp
  obtain ⟨r,r1,r2,r3,r4⟩ := evMks_trace hC init 0 F H hk hget
  rw [Nat.zero_add] at r4
  rw [len_eq'] at r4 hcov
  simp only [Array.length_toList] at r4
  have S : SetM C K ops F H nx n init.length r := ⟨hC,r1,r2,by omega,fun j o hj ho => r3 j o (Nat.zero_le _) (by simpa using hj) ho,hb,hp,hd⟩
  refine wp_region_any hC.wide (anyM_ok (E0:=E) (fp0:=fp) (w0:=w) (a0:=a) S hnone (fun Λ E' fp' w' a' I hall => ?_) (fun _ => ⟨hsz.symm,hcov,fun Λ E' fp' w' a' Kk I hall hKk => ?_⟩) ops.size _ E fp _ a (by simp) (S.start st))
  ·have := hall init.length (by omega)
   rw [I.pend _ (Nat.le_refl _)] at this
   simp at this
  ·obtain ⟨g1,g2⟩ := I.done S hnone hall
   unfold wpOp
   simp only [hgo]
   rw [if_pos (by simp [Region.wanted,h2])]
   left
   refine evOne_sound hC noInl_ok g1.sim g1.fresh g1.rf r4 fun v u H' nx' E'' fp'' w'' k1 k2 k3 k4 => hKk _ _ ?_
   have hom : o ∈ ops.toList := by rw [h1]; simp
   refine hQ _ _ _ E'' fp'' _ _ k1 ⟨k3,k4.fresh,(g1.rf.mono k4.le).put (fun t ht => by rw [g1.size]; exact dst_lt hd hom ht) k2,by rw [Act.put_size]; exact g1.size,by cases o.dst <;> exact g1.df⟩ (g2.trans k4).trip (I.same.trans ((Same.put a' o.dst u).mono fun j hj => asg_mem hj hom))
end Go.Eng
/-
 The engine, part twelve (f): a region with an allocation that nothing orders.
 Conditions: none; nothing is claimed of the program here.
-/
namespace Go.Eng
variable {RT : RoTab} {E : Env} {F : Fr} {a : Act} {H : Heap} {fp : Fp} {w : World} {P : Program} {Y : Type} {y : Y} {C : Cfg} {K : FCfg} {ops : Array Oper}
theorem fltsOf_mem {d : Nat} {e : TypeId} : ∀ {l : List Oper},(d,e) ∈ fltsOf K l -> ∃ (j : Nat) (o : Oper),l[j]? = some o /\ o.op = .alloc e /\ isFl K o = true /\ o.dst = some d
 | [],h => by simp [fltsOf] at h
 | o :: os,h => by
  have rest : (d,e) ∈ fltsOf K os -> ∃ (j : Nat) (o' : Oper),(o :: os)[j]? = some o' /\ o'.op = .alloc e /\ isFl K o' = true /\ o'.dst = some d := fun h => by
   obtain ⟨j,o',h1,h2⟩ := fltsOf_mem h
   exact ⟨j + 1,o',by simpa using h1,h2⟩
  simp only [fltsOf] at h
  split at h
  ·rename_i hf
   split at h
   ·rename_i e' d' h1 h2
    rcases List.mem_cons.1 h with h | h
    ·simp only [Prod.mk.injEq] at h
     obtain ⟨rfl,rfl⟩ := h
     exact ⟨0,o,rfl,h1,hf,h2⟩
    ·exact rest h
   ·exact rest h
  ·exact rest h
theorem allCover_get : ∀ {os : List Oper} {ancs : List Nat} {i j : Nat} {o : Oper},allCover i os ancs = true -> os[j]? = some o -> ∃ anc,ancs[j]? = some anc /\ coversAll anc (i + j) = true /\ o.guard = none
 | [],_,i,j,o,_,h => by simp at h
 | o' :: os,[],i,j,o,h,_ => by simp [allCover] at h
 | o' :: os,anc :: ancs,i,0,o,h,hj => by
  simp at hj
  subst hj
  simp only [allCover,Bool.and_eq_true] at h
  refine ⟨anc,rfl,h.1,?_⟩
  have := h.2.1
  split at this
  ·assumption
  ·simp at this
 | o' :: os,anc :: ancs,i,j + 1,o,h,hj => by
  simp only [allCover,Bool.and_eq_true] at h
  obtain ⟨x,h1,h2,h3⟩ := allCover_get (os:=os) h.2.2 (by simpa using hj)
  exact ⟨x,by simpa using h1,by rw [show i + (j + 1) = i + 1 + j by omega]; exact h2,h3⟩
theorem tail_any (hC : CfgOK C) {k : KS Y} {n m : Nat} (hback : backEdges 0 ops.toList = true) (hd : dstOps n ops.toList = true)
  (hcov : ∀ j o,m <= j -> ops[j]? = some o -> (∀ i,m <= i -> i < j -> bit (nthD 0 (ancsOf [] ops.toList) j) i = true) /\ o.guard = none)
  {E0 : Env} {H0 : Heap} {fp0 : Fp} {w0 : World} {nx0 : Nat} {a0 : Act} {Q : Exit -> Act -> World -> Prop}
  (hQ : ∀ F' H' nx' E' fp' a' w',k F' H' nx' = some y -> St C.RT E' H' fp' w' F' a' nx' n -> Trip C E0 H0 fp0 w0 nx0 E' H' fp' w' nx' -> Same (asgOps ops.toList) a0 a' -> Q .normal a' w') :
  ∀ (os : List Oper) (i fuel : Nat) (Λ : Array Bool) (E : Env) (fp : Fp) (w : World) (a : Act) (F : Fr) (H : Heap) (nx : Nat),m <= i -> ops.toList.drop i = os -> Λ.size = ops.size -> (∀ j,j < ops.size -> Λ.getD j false = decide (j < i)) ->
   St C.RT E H fp w F a nx n -> evTail C K os F H nx k = some y -> Λ.toList.count false <= fuel -> Trip C E0 H0 fp0 w0 nx0 E H fp w nx -> Same (asgOps ops.toList) a0 a -> wpAny C.P .any ops Q fuel Λ a w
 | [],i,fuel,Λ,E,fp,w,a,F,H,nx,hi,hos,hsz,hΛ,st,hk,hf,hT,hS => by
  have hle : ops.size <= i := by
   have := congrArg List.length hos
   simp at this
   omega
  exact wpAny_done hsz (fun j hj => by rw [hΛ j hj]; simp; omega) fuel (hQ F H nx E fp a w hk st hT hS)
 | o :: os,i,fuel,Λ,E,fp,w,a,F,H,nx,hi,hos,hsz,hΛ,st,hk,hf,hT,hS => by
  have hoi : ops[i]? = some o := by
   have := congrArg (fun l => l[0]?) hos
   simpa using this
  have hlt := op_lt hoi
  have hos' : ops.toList.drop (i + 1) = os := by
   have := congrArg List.tail hos
   simpa using this
  have hΛi : Λ.getD i false = false := by rw [hΛ i hlt]; simp
  have hcl : ∀ j oj,ops[j]? = some oj -> Λ.getD j false = true -> ∀ e ∈ oj.after,bindsAny e.ground = true -> Λ.getD e.on false = true := by
   intro j oj hj hl e he hb
   have hb2 := backEdges_get hback (by rw [Array.getElem?_toList]; exact hj : ops.toList[j]? = some oj) he hb
   have hj' := op_lt hj
   rw [hΛ j hj'] at hl
   rw [hΛ _ (by omega)]
   simp at hl ⊢
   omega
  have hlΛ : i < Λ.size := by omega
  have hli : Λ.toList[i]'(by simpa using hlΛ) = false := by simp [hlΛ] at hΛi; simpa using hΛi
  cases fuel with
  | zero =>
   exfalso
   have hm : false ∈ Λ.toList := by rw [<- hli]; simp
   have := List.count_pos_iff.2 hm
   omega
  | succ fuel =>
   refine ⟨fun hr => ?_,fun j hj => ?_⟩
   ·have := least_ready hback hsz hr (i + 1) i (by omega) hlt
    rw [hΛi] at this; simp at this
   rw [mem_ready] at hj
   obtain ⟨h1,oj,hoj,hed⟩ := hj
   have hj' := op_lt hoj
   have hun : Λ.getD j false = false := by
    have : j < Λ.size := by omega
    simp [this] at h1 ⊢; exact h1
   rw [hΛ j hj'] at hun
   have hij : i <= j := by simpa using hun
   have hdone := anc_done hback hcl (j + 1) j oj (by omega) hoj (fun e he hb => hed e he (by rw [binds_eq]; exact hb))
   have hji : j = i := by
    rcases Nat.lt_or_ge i j with h | h
    ·have := hdone i ((hcov j oj (by omega) hoj).1 i hi h)
     rw [hΛi] at this; simp at this
    ·omega
   subst hji
   rw [hoi] at hoj
   obtain rfl := Option.some.inj hoj
   unfold wpOp
   simp only [hoi]
   rw [if_pos (by simp [Region.wanted,(hcov _ _ hi hoi).2])]
   left
   simp only [evTail] at hk
   refine evOne_sound hC noInl_ok st.sim st.fresh st.rf hk fun v u H' nx' E' fp' w' k1 k2 k3 k4 => ?_
   have hom : o ∈ ops.toList := by simpa using Array.mem_of_getElem? hoi
   refine tail_any hC hback hd hcov hQ os (j + 1) fuel _ E' fp' w' (a.put o.dst u) _ H' nx' (by omega) hos' (by simp [hsz]) (fun q hq => ?_) ⟨k3,k4.fresh,(st.rf.mono k4.le).put (fun t ht => by rw [st.size]; exact dst_lt hd hom ht) k2,by rw [Act.put_size]; exact st.size,by cases o.dst <;> exact st.df⟩ k1 ?_ (hT.trans k4.trip) (hS.trans ((Same.put a o.dst u).mono fun q hq => asg_mem hq hom))
   ·by_cases hqj : j = q
    ·subst hqj
     rw [getD_set_self hlΛ]; simp
    ·rw [getD_set_ne false hqj,hΛ q hq]
     congr 1
     simp only [eq_iff_iff]
     omega
   ·rw [Array.toList_setIfInBounds,List.count_set (by simpa using hlΛ),hli]
    have e1 : (false == false) = true := rfl
    have e2 : ¬ (true == false) = true := by decide
    rw [if_pos e1,if_neg e2]
    omega
variable {k : KS Y} {nx N M : Nat} {r : Nat -> Rec} {hsF : List Heap} {chsF : List Nat} {rdsF : List Rd} {E0 : Env} {H0 : Heap} {fp0 : Fp} {w0 : World} {nx0 : Nat} {a0 : Act} {Λ : Array Bool} {p : Nat}
theorem flt_add (S : Setup C K ops k y F H nx N M r hsF chsF rdsF) (I : Inv C K ops F r N M E0 H0 fp0 w0 nx0 a0 Λ E fp w a p) (hs : Sim C.RT E (r M).H fp w) (hst : Step E0 H0 fp0 w0 nx0 E (r M).H fp w (r M).nx) (e1 : (r p).H = (r M).H)
  {d : Nat} {e : TypeId} {z : List Atom} (hfl : fltsOf K (ops.toList.take M) = [(d,e)]) (hz : zeroA C.P e = some z) (hall : ∀ j o,j < M -> ops[j]? = some o -> isFl K o = true -> Λ.getD j false = true) :
  ∃ (E1 : Env) (fp1 : Fp),E.Le E1 /\ Sim C.RT E1 (putH (r M).H (r M).nx (some (.cells (lenA z) z))) fp1 w /\ Fresh E1 ((r M).nx + 1) /\ Step E0 H0 fp0 w0 nx0 E1 (putH (r M).H (r M).nx (some (.cells (lenA z) z))) fp1 w ((r M).nx + 1) /\ RV C.RT E1 (.at (.ptr (r M).nx 0)) (a.tmps.getD d undef) := by
 obtain ⟨j,o,j1,j2,j3,j4⟩ := fltsOf_mem (K:=K) (l:=ops.toList.take M) (d:=d) (e:=e) (by rw [hfl]; simp)
 have hjm : j < M := by
  rcases Nat.lt_or_ge j M with h | h
  ·exact h
  ·rw [List.getElem?_eq_none (by simp; omega)] at j1; simp at j1
 rw [List.getElem?_take_of_lt hjm,Array.getElem?_toList] at j1
 obtain ⟨v,cb,z',q0,q1,⟨q2,q3⟩,q4,q5,q6⟩ := I.flt j o e d j1 j2 j3 j4 (hall j o hjm j1 j3)
 rw [hz] at q2
 obtain rfl := Option.some.inj q2
 rw [e1] at q5
 have hcb : cb < w.heap.size := heap_lt q4
 have hnone : E.info (r M).nx = none := hst.fresh _ (Nat.le_refl _)
 let I' : Info := ⟨cb,0,1,1,lenA z,false⟩
 have hle : E.Le (putI E (r M).nx I') := putI_le hnone
 have hsz := q3.1
 have hl : 1 * lenA z = z.length := by rw [lenA_eq]; omega
 have hcell : ∀ i,w.cell? ⟨cb,i,none⟩ = v.cells[i]? := fun i => by simp [World.cell?,q4]
 have hsim : Sim C.RT (putI E (r M).nx I') (putH (r M).H (r M).nx (some (.cells (lenA z) z))) (putFp fp (r M).nx (Own I')) w := by
  refine Sim.add hs hnone (Frm.refl w (fun _ => False)) (fun _ _ h => h) (fun _ _ _ h => h) ⟨fun _ => Iff.rfl,Nat.le_refl _,fun x hx => ?_,rfl,hl,rfl,fun j x hj => ?_⟩ (fun x hx => ⟨fun id b hb hfx => q5 x ⟨id,b,hb,hfx⟩ hx.1,fun ad vv hv he => q6 ad vv hv ((congrArg Prod.fst he).trans hx.1)⟩)
  ·obtain ⟨h1,h2,h3⟩ := hx
   simp only [I',Bool.false_eq_true,if_false] at h1 h2 h3
   refine ⟨v.cells[x.2]'(by omega),?_,?_⟩
   ·rw [h1,hcell]; simp
   ·rw [h1]; simp [World.frozen?,q4]
  ·have hlt : j < z.length := by
    rcases Nat.lt_or_ge j z.length with h' | h'
    ·exact h'
    ·rw [List.getElem?_eq_none h'] at hj; simp at hj
   refine ⟨v.cells.getD j undef,?_,(q3.2 j x hj).mono hle⟩
   rw [show I'.coff + j = j from Nat.zero_add j]
   show w.cell? ⟨cb,j,none⟩ = _
   rw [hcell]
   simp [Array.getD,show j < v.cells.size by omega]
 have hfr : Fresh (putI E (r M).nx I') ((r M).nx + 1) := fun id hid => by
  simp only [putI]
  rw [if_neg (by omega)]
  exact hst.fresh id (by omega)
 refine ⟨_,_,hle,hsim,hfr,?_,?_⟩
 ·refine ⟨hst.le.trans hle,hst.frm,fun x hx hlt => ?_,by have := hst.nx; omega,hfr,fun ad vv h => hst.ext ad vv h⟩
  obtain ⟨id,b,hb',hx⟩ := hx
  rw [putH_eq] at hb'
  simp only [putFp] at hx
  split at hb'
  ·rename_i he
   rw [if_pos he] at hx
   have : x.1 = cb := hx.1
   omega
  ·rename_i he
   rw [if_neg he] at hx
   exact hst.own x ⟨id,b,hb',hx⟩ hlt
 ·rw [q1]
  exact R.ptr (I:=I') (by simp [putI])
theorem coversBut_get {m q : Nat} : ∀ {n j : Nat},coversBut m q n = true -> j < n -> j ≠ q -> bit m j = true
 | 0,j,_,h,_ => by omega
 | n + 1,j,h,hj,hq => by
  simp only [coversBut,Bool.and_eq_true,Bool.or_eq_true] at h
  rcases Nat.lt_or_ge j n with h' | h'
  ·exact coversBut_get h.2 h' hq
  ·have e : j = n := by omega
   subst e
   rcases h.1 with h1 | h1
   ·exact h1
   ·exact absurd (Nat.eq_of_beq_eq_true h1) hq
theorem slotOnly_of {o : Oper} (h : slotOnly o = true) : (∃ x i,o.op = .extract x i) /\ o.guard = none := by
 unfold slotOnly at h
 split at h
 ·rename_i x i h1 h2; exact ⟨⟨x,i,h1⟩,h2⟩
 ·simp at h
theorem slotOnly_isC {o : Oper} (h : slotOnly o = true) : isC K o = false /\ isLit K o = false /\ ∀ F,looks F o = false := by
 obtain ⟨⟨x,i,h1⟩,_⟩ := slotOnly_of h
 exact ⟨by unfold isC; simp only [h1],by unfold isLit; simp only [h1],fun F => by unfold looks; simp only [h1]⟩
theorem fsAt_of {all : List Oper} {m m' q : Nat} {o : Oper} {dq : Tmp} (h : fsAt K all m = some (m',o,q,dq)) :
  m = m' + 1 /\ all[m']? = some o /\ o.dst = none /\ o.guard = none /\ ∃ oq,all[q]? = some oq /\ slotOnly oq = true /\ oq.dst = some dq := by
 cases m with
 | zero => simp [fsAt] at h
 | succ m =>
  simp only [fsAt] at h
  split at h
  ·rename_i o' t hd
   split at h
   ·rename_i hfs
    split at h
    ·rename_i q' hg
     split at h
     ·rename_i oq t2 hd2
      split at h
      ·rename_i hso
       split at h
       ·rename_i dq' hdq
        simp only [Option.some.injEq,Prod.mk.injEq] at h
        obtain ⟨rfl,rfl,rfl,rfl⟩ := h
        have g1 : all[m]? = some o' := by
         have := congrArg (fun l => l[0]?) hd
         simpa using this
        have g2 : all[q']? = some oq := by
         have := congrArg (fun l => l[0]?) hd2
         simpa using this
        have g3 : o'.dst = none /\ o'.guard = none := by
         unfold isFs at hfs
         split at hfs
         ·rename_i h2 h3; exact ⟨h2,h3⟩
         ·simp at hfs
        exact ⟨rfl,g1,g3.1,g3.2,oq,g2,hso,hdq⟩
       ·simp at h
      ·simp at h
     ·simp at h
    ·simp at h
   ·simp at h
  ·simp at h
theorem ready_iff {j : Nat} (hsz : Λ.size = ops.size) : j ∈ Region.ready .any ops Λ ↔ ∃ o,ops[j]? = some o /\ Λ.getD j false = false /\ ∀ e ∈ o.after,bindsAny e.ground = true -> Λ.getD e.on false = true := by
 rw [mem_ready]
 constructor
 ·rintro ⟨h1,o,ho,hed⟩
  have hlt : j < Λ.size := by rw [hsz]; exact op_lt ho
  exact ⟨o,ho,by simp [hlt] at h1 ⊢; exact h1,fun e he hb => hed e he (by rw [binds_eq]; exact hb)⟩
 ·rintro ⟨o,ho,h1,hed⟩
  have hlt : j < Λ.size := by rw [hsz]; exact op_lt ho
  exact ⟨by simp [hlt] at h1 ⊢; exact h1,o,ho,fun e he hb => hed e he (by rw [<- binds_eq]; exact hb)⟩
theorem count_put {i : Nat} (hi : i < Λ.size) (hun : Λ.getD i false = false) {fuel : Nat} (h : Λ.toList.count false <= fuel + 1) : (Λ.setIfInBounds i true).toList.count false <= fuel := by
 have hli : Λ.toList[i]'(by simpa using hi) = false := by simp [hi] at hun; simpa using hun
 rw [Array.toList_setIfInBounds,List.count_set (by simpa using hi),hli]
 have e1 : (false == false) = true := rfl
 have e2 : ¬ (true == false) = true := by decide
 rw [if_pos e1,if_neg e2]
 omega
theorem count_some {i : Nat} (hi : i < Λ.size) (hun : Λ.getD i false = false) : 0 < Λ.toList.count false := by
 have hli : Λ.toList[i]'(by simpa using hi) = false := by simp [hi] at hun; simpa using hun
 exact List.count_pos_iff.2 (by rw [<- hli]; simp)
theorem gap_ok {o : Oper} {dq : Tmp} (S : Setup C K ops (fun F H nx => match fltsOf K (ops.toList.take M) with
    | [(d,e)] => match bigZ C.P e with
     | some _ => none
     | none => match zeroA C.P e with
      | some z => evOne C K noInl o (putH H nx (some (.cells (lenA z) z))) (putF (putF F d (.at (.ptr nx 0))) dq (.at .unk)) (putH H nx (some (.cells (lenA z) z))) (nx + 1) fun _ F2 H2 nx2 => evTail C K (ops.toList.drop (M + 1)) (putF F2 dq (F dq)) H2 nx2 k
      | none => none
    | _ => none) y F H nx N M r hsF chsF rdsF) {q : Nat} {oq : Oper}
  (ho : ops[M]? = some o) (hod : o.dst = none) (hog : o.guard = none) (hoq : ops[q]? = some oq) (hso : slotOnly oq = true) (hdq : oq.dst = some dq) (hqM : q < M)
  (hcovM : ∀ i,i < M -> i ≠ q -> bit (nthD 0 (ancsOf [] ops.toList) M) i = true)
  (hcov : ∀ j o,M + 1 <= j -> ops[j]? = some o -> (∀ i,i < j -> bit (nthD 0 (ancsOf [] ops.toList) j) i = true) /\ o.guard = none) {Q : Exit -> Act -> World -> Prop}
  (hQ : ∀ F' H' nx' E' fp' a' w',k F' H' nx' = some y -> St C.RT E' H' fp' w' F' a' nx' N -> Trip C E0 H0 fp0 w0 nx0 E' H' fp' w' nx' -> Same (asgOps ops.toList) a0 a' -> Q .normal a' w') :
  ∀ (fuel : Nat) (Λ : Array Bool) (E : Env) (fp : Fp) (w : World) (a : Act) (p : Nat),Λ.toList.count false <= fuel -> Inv C K ops F r N M E0 H0 fp0 w0 nx0 a0 Λ E fp w a p -> (∀ j,j < M -> j ≠ q -> Λ.getD j false = true) -> wpAny C.P .any ops Q fuel Λ a w
 | 0,Λ,E,fp,w,a,p,hf,I,hall => by
  have := count_some (Λ:=Λ) (i:=M) (by rw [I.size]; exact op_lt ho) (I.pend M (Nat.le_refl _))
  omega
 | fuel + 1,Λ,E,fp,w,a,p,hf,I,hall => by
  obtain ⟨hqC,hqL,hqK⟩ := slotOnly_isC (K:=K) hso
  have hMs := op_lt ho
  have hqs := op_lt hoq
  have hMΛ := I.pend M (Nat.le_refl _)
  obtain ⟨hs,hst,e1,hrv⟩ := I.doneBut S (q:=q) (fun o h => by rw [hoq] at h; obtain rfl := Option.some.inj h; exact hqC) hall
  refine ⟨fun hr => absurd (least_ready S.back I.size hr (M + 1) M (by omega) hMs) (by rw [hMΛ]; simp),fun i hi => ?_⟩
  obtain ⟨oi,hoi,hun,hed⟩ := (ready_iff I.size).1 hi
  have hdone := anc_done S.back I.closed (i + 1) i oi (by omega) hoi hed
  by_cases hiM : i < M
  ·-- the one that looks at slots alone
   exact I.op S hoi hiM hun hed fun E' fp' w' a' p' I' => gap_ok S ho hod hog hoq hso hdq hqM hcovM hcov hQ fuel _ E' fp' w' a' p' (count_put (by rw [I.size]; exact op_lt hoi) hun hf) I' (fun j hj hjq => by
    by_cases hij : i = j
    ·subst hij; exact getD_set_self (by rw [I.size]; exact op_lt hoi)
    ·rw [getD_set_ne false hij]; exact hall j hj hjq)
  ·-- the store
   have hi' : i = M := by
    rcases Nat.lt_or_ge M i with h | h
    ·have := hdone M ((hcov i oi (by omega) hoi).1 M h)
     rw [hMΛ] at this; simp at this
    ·omega
   subst hi'
   rw [ho] at hoi
   obtain rfl := Option.some.inj hoi
   have hfin := (checkRds_get S.tr.fin).1
   rw [Nat.zero_add] at hfin
   split at hfin
   ·rename_i d e hfl
    split at hfin
    ·simp at hfin
    split at hfin
    ·rename_i z hz
     obtain ⟨E1,fp1,hle,hs1,hf1,hst1,hptr⟩ := flt_add S I hs hst e1 hfl hz (fun j oj hj hoj hfo => hall j hj (fun he => by
      subst he
      rw [hoq] at hoj
      obtain rfl := Option.some.inj hoj
      rw [(isFl_lit hfo).1] at hqL
      simp at hqL))
     have hrf1 : RF C.RT E1 (putF (putF (r i).F d (.at (.ptr (r i).nx 0))) dq (.at .unk)) a := fun t => by
      rw [putF_eq]
      split
      ·exact R.unk _
      ·rename_i htq
       rw [putF_eq]
       split
       ·rename_i htd; rw [htd]; exact hptr
       ·refine (hrv t fun o' ho' hd' => ?_).mono hle
        rw [hoq] at ho'
        obtain rfl := Option.some.inj ho'
        rw [hdq] at hd'
        exact absurd (Option.some.inj hd').symm htq
     have hlt : i < Λ.size := by rw [I.size]; exact hMs
     unfold wpOp
     simp only [ho]
     rw [if_pos (by simp [Region.wanted,hog])]
     left
     refine evOne_sound S.hC noInl_ok hs1 hf1 hrf1 hfin fun v u H2 nx2 E2 fp2 w2 k1 k2 k3 k4 => ?_
     rw [hod] at k1 ⊢
     simp only [putO] at k1
     have hput : a.put none u = a := rfl
     rw [hput]
     have hcnt := count_put hlt hMΛ hf
     have hst2 := hst1.trans k4
     have hle2 : E.Le E2 := hle.trans k4.le
     have hcov' : ∀ j oj,i + 1 <= j -> ops[j]? = some oj -> (∀ m,i + 1 <= m -> m < j -> bit (nthD 0 (ancsOf [] ops.toList) j) m = true) /\ oj.guard = none := fun j oj hj hoj => ⟨fun m _ hm => (hcov j oj hj hoj).1 m hm,(hcov j oj hj hoj).2⟩
     by_cases hqd : Λ.getD q false = true
     ·-- both are done
      refine tail_any S.hC S.back S.dst hcov' hQ (ops.toList.drop (i + 1)) (i + 1) fuel _ E2 fp2 w2 a _ H2 nx2 (Nat.le_refl _) rfl (by simp [I.size]) (fun j hj => ?_) ⟨k3,k4.fresh,fun t => ?_,I.asz,I.df⟩ k1 hcnt hst2.trip I.same
      ·by_cases hij : i = j
       ·subst hij; rw [getD_set_self hlt]; simp
       ·rw [getD_set_ne false hij]
        rcases Nat.lt_or_ge j i with h | h
        ·have hj1 : Λ.getD j false = true := by
          by_cases hjq : j = q
          ·rw [hjq]; exact hqd
          ·exact hall j h hjq
         rw [hj1]
         simp; omega
        ·rw [I.pend j h]; simp; omega
      ·rw [putF_eq]
       split
       ·rename_i ht
        rw [ht]
        exact (hrv dq fun _ _ _ => hqd).mono hle2
       ·have := hrf1 t
        exact this.mono k4.le
     ·-- the other one is left
      have hqu : Λ.getD q false = false := by cases h : Λ.getD q false <;> simp_all
      have hsz1 : (Λ.setIfInBounds i true).size = ops.size := by simp [I.size]
      have hqi : i ≠ q := by omega
      have hq1 : (Λ.setIfInBounds i true).getD q false = false := by rw [getD_set_ne false hqi]; exact hqu
      have hqlt : q < (Λ.setIfInBounds i true).size := by rw [hsz1]; exact hqs
      cases fuel with
      | zero => have := count_some hqlt hq1; omega
      | succ fuel =>
       refine ⟨fun hr => absurd (least_ready S.back hsz1 hr (q + 1) q (by omega) hqs) (by rw [hq1]; simp),fun j hj => ?_⟩
       obtain ⟨oj,hoj,hunj,hedj⟩ := (ready_iff hsz1).1 hj
       have hcl1 : ∀ m om,ops[m]? = some om -> (Λ.setIfInBounds i true).getD m false = true -> ∀ e ∈ om.after,bindsAny e.ground = true -> (Λ.setIfInBounds i true).getD e.on false = true := by
        intro m om hm hl e' he hb
        have hon : Λ.getD e'.on false = true -> (Λ.setIfInBounds i true).getD e'.on false = true := fun h => by
         by_cases hx : i = e'.on
         ·rw [<- hx]; exact getD_set_self hlt
         ·rw [getD_set_ne false hx]; exact h
        by_cases hmi : i = m
        ·subst hmi
         rw [ho] at hm
         obtain rfl := Option.some.inj hm
         exact hon (hed e' he hb)
        ·rw [getD_set_ne false hmi] at hl
         exact hon (I.closed m om hm hl e' he hb)
       have hdonej := anc_done S.back hcl1 (j + 1) j oj (by omega) hoj hedj
       have hjq : j = q := by
        rcases Nat.lt_trichotomy j i with h | h | h
        ·by_cases hx : j = q
         ·exact hx
         ·rw [getD_set_ne false (by omega),hall j h hx] at hunj; simp at hunj
        ·subst h; rw [getD_set_self hlt] at hunj; simp at hunj
        ·have := hdonej q ((hcov j oj (by omega) hoj).1 q (by omega))
         rw [hq1] at this; simp at this
       subst hjq
       rw [hoq] at hoj
       obtain rfl := Option.some.inj hoj
       obtain ⟨⟨x,ix,hop⟩,hqg⟩ := slotOnly_of hso
       have hedΛ : ∀ e' ∈ oq.after,bindsAny e'.ground = true -> Λ.getD e'.on false = true := by
        intro e' he hb
        have h1 := hedj e' he hb
        have hlt2 := backEdges_get S.back (by rw [Array.getElem?_toList]; exact hoq : ops.toList[j]? = some oq) he hb
        rw [getD_set_ne false (by omega)] at h1
        exact h1
       have hev : evR C.P C.RT (r j).H (r j).F oq.op some = some (r j).v := by
        rcases S.tr.step j oq (Nat.zero_le _) (by omega) hoq with ⟨_,h2,_⟩ | ⟨_,_,_,⟨h3,_⟩ | ⟨_,h3,_⟩ | ⟨_,_,h3,_⟩⟩
        ·have hG : GuardRel ops oq C.RT E (r j).F a := fun g want d' hg _ => by rw [hqg] at hg; simp at hg
         have := h2 _ _ _ hG
         simp [Region.wanted,hqg] at this
        ·rw [hqC] at h3; simp at h3
        ·rw [hqL] at h3; simp at h3
        ·exact h3
       have hrfq : RF C.RT E2 (only oq.op.operands (r j).F) a := only_rf fun t ht => (I.sees S hoq (Nat.le_of_lt hqM) hqu hedΛ (eyes_opd ht)).mono hle2
       rw [evR_blind (H' := H2) (hqK _),evR_congr (fun x hx => (only_opd hx).symm)] at hev
       obtain ⟨v',u',g1,g2,g3⟩ := evR_sound hrfq k3 hev
       simp only [Option.some.injEq] at g1
       unfold wpOp
       simp only [hoq]
       rw [if_pos (by simp [Region.wanted,hqg])]
       left
       unfold Oper.wp
       rw [g2]
       have hFq : (r i).F dq = (r j).v := by
        rcases S.frame i dq (Nat.le_refl _) with ⟨m,om,h1,h2,h3,h4⟩ | ⟨h1,_⟩
        ·rw [h4,S.dst_ne h2 hoq h3 hdq]
        ·exact absurd hdq (h1 j oq hqM hoq)
       have hom : oq ∈ ops.toList := by simpa using Array.mem_of_getElem? hoq
       have hdlt : ∀ t,oq.dst = some t -> t < a.tmps.size := fun t ht => by rw [I.asz]; exact dst_lt S.dst hom ht
       refine tail_any S.hC S.back S.dst hcov' hQ (ops.toList.drop (i + 1)) (i + 1) fuel _ E2 fp2 w2 (a.put oq.dst u') _ H2 nx2 (Nat.le_refl _) rfl (by simp [I.size]) (fun m hm => ?_) ⟨k3,k4.fresh,?_,by rw [Act.put_size]; exact I.asz,by cases oq.dst <;> exact I.df⟩ k1 (count_put hqlt hq1 hcnt) hst2.trip (I.same.trans ((Same.put a oq.dst u').mono fun t ht => asg_mem ht hom))
       ·by_cases hjm : j = m
        ·subst hjm; rw [getD_set_self hqlt]; simp; omega
        ·rw [getD_set_ne false hjm]
         by_cases him : i = m
         ·subst him; rw [getD_set_self hlt]; simp
         ·rw [getD_set_ne false him]
          rcases Nat.lt_or_ge m i with h | h
          ·rw [hall m h (fun hx => hjm hx.symm)]; simp; omega
          ·rw [I.pend m h]; simp; omega
       ·have hb : RF C.RT E2 (putF (putF (r i).F d (.at (.ptr (r i).nx 0))) dq (.at .unk)) a := fun t => (hrf1 t).mono k4.le
        have := hb.put (d:=oq.dst) hdlt (v:=(r i).F dq) (u:=u') (by rw [hFq,<- g1]; exact g3)
        rw [hdq] at this ⊢
        exact this
    ·simp at hfin
   ·simp at hfin
theorem evDrawF_sound (hC : CfgOK C) {k : KS Y} {nx id n : Nat} {Q : Exit -> Act -> World -> Prop}
  (hk : evDrawF C K ops.toList F H nx k = some y) (st : St C.RT E H fp w F a nx n) (hd : dstOps n ops.toList = true)
  (hQ : ∀ F' H' nx' E' fp' a' w',k F' H' nx' = some y -> St C.RT E' H' fp' w' F' a' nx' n -> Trip C E H fp w nx E' H' fp' w' nx' -> Same (asgOps ops.toList) a a' -> Q .normal a' w') :
  (Code.region id ops true).wp C.P Q a w := by
 unfold evDrawF at hk
 rw [gate_some] at hk
 obtain ⟨hg,hk⟩ := hk
 simp only [Bool.and_eq_true] at hg
 obtain ⟨hb,hp,hch⟩ := hg
 simp only at hk
 generalize cutM ops.toList (ancsOf [] ops.toList) (len ops.toList) 0 = m at hk
 rw [gate_some] at hk
 obtain ⟨hg2,hk⟩ := hk
 simp only [Bool.and_eq_true] at hg2
 have hm := Nat.le_of_ble_eq_true hg2.1
 rw [len_eq',Array.length_toList] at hm
 have hcov : ∀ j o,m <= j -> ops[j]? = some o -> (∀ i,i < j -> bit (nthD 0 (ancsOf [] ops.toList) j) i = true) /\ o.guard = none := by
  intro j o hj ho
  obtain ⟨anc,h1,h2,h3⟩ := allCover_get (j:=j - m) hg2.2 (by rw [List.getElem?_drop,show m + (j - m) = j by omega,Array.getElem?_toList]; exact ho)
  rw [List.getElem?_drop,show m + (j - m) = j by omega] at h1
  rw [show m + (j - m) = j by omega] at h2
  refine ⟨fun i hi => ?_,h3⟩
  rw [nthD_eq,List.getD_eq_getElem?_getD,h1]
  exact coversAll_get h2 hi
 cases hfs : fsAt K ops.toList m with
 | some x =>
  obtain ⟨m',o,q,dq⟩ := x
  rw [hfs] at hk
  simp only at hk
  rw [gate_some] at hk
  obtain ⟨hcb,hk⟩ := hk
  obtain ⟨rfl,ho,hod,hog,oq,hoq,hso,hdq⟩ := fsAt_of hfs
  rw [Array.getElem?_toList] at ho hoq
  have hM : (ops.toList.take m').length = m' := by simp; omega
  obtain ⟨r,hsF,chsF,rdsF,tr⟩ := evOpsA_trace hC (ops.toList.take m') 0 F H nx [H] [] [] hk rfl rfl (fun j hj => by
   rw [hM] at hj
   rw [List.getElem?_take_of_lt hj,Nat.zero_add,Array.getElem?_toList])
  rw [hM] at tr
  by_cases hqm : q < m'
  ·have S := (⟨hC,tr,by omega,hb,hp,hch,hd⟩ : Setup C K ops _ y F H nx n m' r hsF chsF rdsF)
   have hcovM : ∀ i,i < m' -> i ≠ q -> bit (nthD 0 (ancsOf [] ops.toList) m') i = true := fun i hi hq => coversBut_get hcb hi hq
   exact wp_region_any hC.wide (any_ok (E0:=E) (H0:=H) (fp0:=fp) (w0:=w) (nx0:=nx) (a0:=a) S q (fun j h1 h2 i hi hq => by
    rcases Nat.lt_or_ge m' j with h | h
    ·exact (hcov j ops[j] h (by simp [h2])).1 i (by omega)
    ·have : j = m' := by omega
     subst this
     exact hcovM i hi hq) (fun fuel Λ E' fp' w' a' p hf I hall => gap_ok S ho hod hog hoq hso hdq hqm hcovM hcov hQ fuel Λ E' fp' w' a' p hf I hall) ops.size _ E fp _ a 0 (by simp) (S.start st))
  ·exfalso
   have := op_lt ho
   have key : ∀ n q,gapM (nthD 0 (ancsOf [] ops.toList) m') n = some q -> q < n := by
    intro n
    induction n with
    | zero => intro q h; simp [gapM] at h
    | succ n ih =>
     intro q h
     simp only [gapM] at h
     split at h
     ·have := ih q h; omega
     ·simp at h; omega
   simp only [fsAt] at hfs
   split at hfs
   ·split at hfs
    ·split at hfs
     ·rename_i q' hgap
      have hq' := key _ _ hgap
      split at hfs
      ·split at hfs
       ·split at hfs
        ·simp at hfs; omega
        ·simp at hfs
       ·simp at hfs
      ·simp at hfs
     ·simp at hfs
    ·simp at hfs
   ·simp at hfs
 | none =>
 rw [hfs] at hk
 simp only at hk
 have hM : (ops.toList.take m).length = m := by simp; omega
 obtain ⟨r,hsF,chsF,rdsF,tr⟩ := evOpsA_trace hC (ops.toList.take m) 0 F H nx [H] [] [] hk rfl rfl (fun j hj => by
  rw [hM] at hj
  rw [List.getElem?_take_of_lt hj,Nat.zero_add,Array.getElem?_toList])
 rw [hM] at tr
 have S : Setup C K ops _ y F H nx n m r hsF chsF rdsF := ⟨hC,tr,hm,hb,hp,hch,hd⟩
 refine wp_region_any hC.wide (any_ok (E0:=E) (H0:=H) (fp0:=fp) (w0:=w) (nx0:=nx) (a0:=a) S ops.size (fun j h1 h2 i hi _ => ?_) (fun fuel Λ E' fp' w' a' p hf I hall => ?_) ops.size _ E fp _ a 0 (by simp) (S.start st))
 ·exact (hcov j ops[j] h1 (by simp [h2])).1 i (by omega)
 have hall : ∀ j,j < m -> Λ.getD j false = true := fun j hj => hall j hj (by omega)
 have hfin := (checkRds_get S.tr.fin).1
 rw [Nat.zero_add] at hfin
 obtain ⟨g1,g2,e1⟩ := I.done S hall
 split at hfin
 ·rename_i d e hfl
  split at hfin
  ·simp at hfin
  split at hfin
  ·rename_i z hz
   obtain ⟨E1,fp1,hle,hs1,hf1,hst1,hptr⟩ := flt_add S I g1.sim g2 e1 hfl hz (fun j _ hj _ _ => hall j hj)
   refine tail_any hC hb hd (fun j o hj ho => ⟨fun i _ hi => (hcov j o hj ho).1 i hi,(hcov j o hj ho).2⟩) hQ (ops.toList.drop m) m fuel Λ _ _ w' a' _ _ _ (Nat.le_refl _) rfl I.size (fun q hq => ?_) ⟨hs1,hf1,fun t => ?_,g1.size,g1.df⟩ hfin hf hst1.trip I.same
   ·rcases Nat.lt_or_ge q m with h | h
    ·rw [hall q h]; simp [h]
    ·rw [I.pend q h]; simp; omega
   ·rw [putF_eq]
    split
    ·rename_i ht
     rw [ht]
     exact hptr
    ·exact (g1.rf t).mono hle
  ·simp at hfin
 ·simp at hfin
theorem evDraw_sound (hC : CfgOK C) {k : KS Y} {nx id n : Nat} {Q : Exit -> Act -> World -> Prop}
  (hk : evDraw C K ops.toList F H nx k = some y) (st : St C.RT E H fp w F a nx n) (hd : dstOps n ops.toList = true)
  (hQ : ∀ F' H' nx' E' fp' a' w',k F' H' nx' = some y -> St C.RT E' H' fp' w' F' a' nx' n -> Trip C E H fp w nx E' H' fp' w' nx' -> Same (asgOps ops.toList) a a' -> Q .normal a' w') :
  (Code.region id ops true).wp C.P Q a w := by
 unfold evDraw at hk
 cases hm : anyMk K ops.toList with
 | true => simp only [hm] at hk; exact evDrawM_sound hC hk st hd hQ
 | false =>
  simp only [hm] at hk
  cases hf : anyFl K ops.toList with
  | true => simp only [hf] at hk; exact evDrawF_sound hC hk st hd hQ
  | false => simp only [hf] at hk; exact evDrawC_sound hC hk st hd hQ
end Go.Eng
/-
 The engine, part thirteen: code.
 Conditions: none; nothing is claimed of the program here.
-/
namespace Go.Eng
variable {RT : RoTab} {E : Env} {F : Fr} {a : Act} {H : Heap} {fp : Fp} {w : World} {P : Program} {Y : Type} {y : Y} {C : Cfg}
theorem allLive_get : ∀ {l : List (Nat × BPat)} {q : Nat × BPat},allLive l = true -> q ∈ l -> q.2 ≠ .dead
 | [],q,_,h => by simp at h
 | (t,p) :: r,q,h,hm => by
  have hh : p ≠ .dead /\ allLive r = true := by
   cases p <;> simp [allLive] at h ⊢ <;> exact h
  rcases List.mem_cons.1 hm with rfl | hm
  ·exact hh.1
  ·exact allLive_get hh.2 hm
theorem noRo_R {E' : Env} {L Lc : Leaves} {p : Pat} {u : Value} (hi : ∀ t I,E.info t = some I -> E'.info t = some I) (hp : noRo p = true) (h : R RT E (fAtom L Lc p) u) : R RT E' (fAtom L Lc p) u := by
 cases p with
 | unk => exact .unk u
 | bool i => rw [R.bool_inv h]; exact .bool _
 | int k i => rw [R.int_inv h]; exact .int _ _
 | fbool i => rw [R.bool_inv h]; exact .bool _
 | fint k i => rw [R.int_inv h]; exact .int _ _
 | roi k i => simp [noRo] at hp
 | froi k i => simp [noRo] at hp
 | rro T i => simp [noRo] at hp
 | frro T i => simp [noRo] at hp
 | nilp => simp only [fAtom] at h ⊢; cases h; exact .nilp
 | nils => simp only [fAtom] at h ⊢; cases h; exact .nils
 | ptr t off => simp only [fAtom] at h ⊢; cases h with | ptr h => exact .ptr (hi _ _ h)
 | full t nn => simp only [fAtom] at h ⊢; cases h with | full h hb hn hc hg => exact .full (hi _ _ h) hb hn hc hg
 | ror tag => simp [noRo] at hp
 | fn f => simp only [fAtom] at h ⊢; cases h with | fn hn hr => exact .fn hn fun j x hj => by simp at hj
 | ifp ty t off => simp only [fAtom] at h ⊢; cases h with | ifa hr => cases hr with | ptr h => exact .ifa (.ptr (hi _ _ h))
 | fsub t h1 h2 => simp only [fAtom] at h ⊢; cases h with | sub h hw hl hc hb => exact .sub (hi _ _ h) hw hl hc hb
 | clo f ts =>
  simp only [fAtom] at h ⊢
  cases h with
  | fn hn hr =>
   refine R.fn hn fun j x hj => ?_
   obtain ⟨q,hts,rfl⟩ := cloA_get hj
   obtain ⟨I,hI,hu⟩ := R.ptr_inv (hr j _ hj)
   rw [hu]
   exact R.ptr (hi _ _ hI)
theorem noRos_get : ∀ {ps : List Pat} {p : Pat},noRos ps = true -> p ∈ ps -> noRo p = true
 | [],p,_,h => by simp at h
 | q :: r,p,h,hm => by
  simp only [noRos,Bool.and_eq_true] at h
  rcases List.mem_cons.1 hm with rfl | hm
  ·exact h.1
  ·exact noRos_get h.2 hm
theorem noRoS_get : ∀ {ps : List (Nat × VPat)} {q : Nat × VPat},noRoS ps = true -> q ∈ ps -> noRoV q.2 = true
 | [],p,_,h => by simp at h
 | (t,p') :: r,q,h,hm => by
  simp only [noRoS,Bool.and_eq_true] at h
  rcases List.mem_cons.1 hm with rfl | hm
  ·exact h.1
  ·exact noRoS_get h.2 hm
theorem noRoB_get : ∀ {bs : List (Nat × BPat)} {q : Nat × BPat} {wd : Nat} {ps : List Pat},noRoB bs = true -> q ∈ bs -> q.2 = .cells wd ps -> noRos ps = true
 | [],q,_,_,_,h,_ => by simp at h
 | (t,p) :: r,q,wd,ps,h,hm,he => by
  rcases List.mem_cons.1 hm with rfl | hm
  ·simp only at he
   subst he
   simp only [noRoB,Bool.and_eq_true] at h
   exact h.1
  ·refine noRoB_get (bs:=r) ?_ hm he
   cases p <;> simp only [noRoB,Bool.and_eq_true] at h <;> first | exact h.2 | exact h | exact absurd h (by simp)
theorem noRoB_recs : ∀ {bs : List (Nat × BPat)} {q : Nat × BPat},noRoB bs = true -> q ∈ bs -> (∀ g T h,q.2 ≠ .recs g T h) /\ (∀ g T h,q.2 ≠ .frecs g T h) /\ (∀ k h hi t,q.2 ≠ .fhole k h hi t)
 | [],q,_,h => by simp at h
 | (t,p) :: r,q,h,hm => by
  rcases List.mem_cons.1 hm with rfl | hm
  ·cases p <;> simp_all [noRoB]
  ·refine noRoB_recs (bs:=r) ?_ hm
   cases p <;> simp only [noRoB,Bool.and_eq_true] at h <;> first | exact h.2 | exact h | exact absurd h (by simp)
theorem noRo_RCs {E' : Env} {L Lc : Leaves} {ps : List Pat} {vs : Array Value} (hi : ∀ t I,E.info t = some I -> E'.info t = some I) (hp : noRos ps = true) (h : RCs RT E (fAtoms L Lc ps) vs) :
  RCs RT E' (fAtoms L Lc ps) vs := by
 refine ⟨h.1,fun j x hj => ?_⟩
 have := h.2 j x hj
 rw [fAtoms_eq,List.getElem?_map] at hj
 cases hq : ps[j]? with
 | none => simp [hq] at hj
 | some p =>
  simp [hq] at hj
  subst hj
  exact noRo_R hi (noRos_get hp (List.mem_of_getElem? hq)) this
theorem noRo_RV {E' : Env} {L Lc : Leaves} {p : VPat} {u : Value} (hi : ∀ t I,E.info t = some I -> E'.info t = some I) (hp : noRoV p = true) (h : RV RT E (fAV L Lc p) u) : RV RT E' (fAV L Lc p) u := by
 cases p with
 | «at» p => exact noRo_R (p:=p) hi hp h
 | agg ps => obtain ⟨vs,rfl,hc⟩ := h; exact ⟨vs,rfl,noRo_RCs hi hp hc⟩
 | tup ps => simp [noRoV] at hp
theorem noRo_blk {E' : Env} {L Lc : Leaves} {p : BPat} {b : Blk} {I : Info} {f : Nat × Nat -> Prop} (hi : ∀ t I,E.info t = some I -> E'.info t = some I)
  (hp : ∀ wd ps,p = .cells wd ps -> noRos ps = true) (hpr : (∀ g T h,p ≠ .recs g T h) /\ (∀ g T h,p ≠ .frecs g T h) /\ (∀ k h hi t,p ≠ .fhole k h hi t)) (hb : fBlk L Lc p = some b) (ok : BlkOK RT E b I f w) : BlkOK RT E' b I f w where
 own := ok.own
 cap := ok.cap
 live := ok.live
 kind := by
  have hk := ok.kind
  cases p with
  | cells wd ps =>
   simp only [fBlk,Option.some.injEq] at hb
   subst hb
   refine ⟨hk.1,hk.2.1,hk.2.2.1,fun j x hj => ?_⟩
   obtain ⟨v,hv,hr⟩ := hk.2.2.2 j x hj
   refine ⟨v,hv,?_⟩
   rw [fAtoms_eq,List.getElem?_map] at hj
   cases hq : ps[j]? with
   | none => simp [hq] at hj
   | some p =>
    simp [hq] at hj
    subst hj
    exact noRo_R hi (noRos_get (hp _ _ rfl) (List.mem_of_getElem? hq)) hr
  | ints g k i => simp only [fBlk,Option.some.injEq] at hb; subst hb; exact hk
  | fints g k i => simp only [fBlk,Option.some.injEq] at hb; subst hb; exact hk
  | recs g T i => exact absurd rfl (hpr.1 g T i)
  | frecs g T i => exact absurd rfl (hpr.2.1 g T i)
  | fhole k i hi t => exact absurd rfl (hpr.2.2 k i hi t)
  | dead => simp [fBlk] at hb
theorem scrub_R {E' : Env} {mov : List Nat} {x : Atom} {u : Value} (hi : ∀ t I,t ∉ mov -> E.info t = some I -> E'.info t = some I) (hM : ∀ a v,E.M a = some v -> E'.M a = some v) (hRT : RTok RT)
  (h : R RT E x u) : R RT E' (scrubA mov x) u := by
 have key : ∀ {t : Nat},mem mov t = false -> t ∉ mov := fun {t} hb hm => by rw [mem_iff.2 hm] at hb; simp at hb
 cases h with
 | unk => exact .unk _
 | bool b => exact .bool b
 | int k n => exact .int k n
 | str s => exact .str s
 | empt => exact .unk _
 | nilp => exact .nilp
 | ptr h =>
  simp only [scrubA]
  split
  ·exact .unk _
  ·rename_i hb; exact .ptr (hi _ _ (key hb) h)
 | eptr h h1 h2 =>
  simp only [scrubA]
  split
  ·exact .unk _
  ·rename_i hb; exact .eptr (hi _ _ (key hb) h) h1 h2
 | nils => exact .nils
 | full h hb hn hc hg =>
  simp only [scrubA]
  split
  ·exact .unk _
  ·rename_i hb'; exact .full (hi _ _ (key hb') h) hb hn hc hg
 | sub h hw hl hc hb =>
  simp only [scrubA]
  split
  ·exact .unk _
  ·rename_i hb'; exact .sub (hi _ _ (key hb') h) hw hl hc hb
 | csub => exact .unk _
 | roi hc hx => exact .roi hc fun i h => let ⟨a,h1,h2,h3⟩ := hx i h; ⟨a,h1,h2,hM _ _ h3⟩
 | ror uu hT hc hx hr =>
  exact .ror uu hT hc (fun i j hi hj => let ⟨a,h1,h2,h3⟩ := hx i j hi hj; ⟨a,h1,h2,hM _ _ h3⟩) fun i j hi hj => (hr i j hi hj).simple hM (hRT _ _ _ _ hT)
 | rro uu hc hx hr => exact rro_R hM (.rro uu hc hx hr)
 | rop => exact .unk _
 | @fn f cap vs hn hr =>
  cases f with
  | func f =>
   cases cap with
   | nil => exact .fn hn fun j x hj => by simp at hj
   | cons c cs => exact .unk _
  | _ => exact .unk _
 | nilf => exact .nilf
 | nili => exact .nili
 | und => exact .unk _
 | @ifa t x v hr =>
  cases hr with
  | ptr h =>
   simp only [scrubA]
   split
   ·exact .unk _
   ·rename_i hb; exact .ifa (.ptr (hi _ _ (key hb) h))
  | _ => exact .unk _
 | ifg hn hr => simp only [scrubA]; exact .unk _
theorem scrubAs_eq (mov : List Nat) : ∀ as : List Atom,scrubAs mov as = as.map (scrubA mov)
 | [] => rfl
 | p :: ps => by simp [scrubAs,scrubAs_eq mov ps]
theorem scrubT_eq (mov : List Nat) : ∀ as : List (Bool × List Atom),scrubT mov as = as.map fun p => (p.1,scrubAs mov p.2)
 | [] => rfl
 | (g,p) :: ps => by simp [scrubT,scrubT_eq mov ps]
theorem scrub_RCs {E' : Env} {mov : List Nat} {cs : List Atom} {vs : Array Value} (hi : ∀ t I,t ∉ mov -> E.info t = some I -> E'.info t = some I) (hM : ∀ a v,E.M a = some v -> E'.M a = some v) (hRT : RTok RT)
  (h : RCs RT E cs vs) : RCs RT E' (scrubAs mov cs) vs := by
 rw [scrubAs_eq]
 refine ⟨by rw [h.1]; simp,fun j x hj => ?_⟩
 rw [List.getElem?_map] at hj
 cases hq : cs[j]? with
 | none => simp [hq] at hj
 | some x' =>
  simp [hq] at hj
  subst hj
  exact scrub_R hi hM hRT (h.2 j x' hq)
theorem scrub_RV {E' : Env} {mov : List Nat} {x : AV} {u : Value} (hi : ∀ t I,t ∉ mov -> E.info t = some I -> E'.info t = some I) (hM : ∀ a v,E.M a = some v -> E'.M a = some v) (hRT : RTok RT)
  (h : RV RT E x u) : RV RT E' (scrubAV mov x) u := by
 cases x with
 | «at» x => exact scrub_R (x:=x) hi hM hRT h
 | agg cs => obtain ⟨vs,rfl,hc⟩ := h; exact ⟨vs,rfl,scrub_RCs hi hM hRT hc⟩
 | arr k xs => exact h
 | tup ps =>
  obtain ⟨vs,rfl,hn,hc⟩ := h
  refine ⟨vs,rfl,by rw [hn,scrubT_eq]; simp,fun j q hj => ?_⟩
  rw [scrubT_eq,List.getElem?_map] at hj
  cases hq : ps[j]? with
  | none => simp [hq] at hj
  | some q' =>
   simp [hq] at hj
   subst hj
   have := hc j q' hq
   obtain ⟨g,cs⟩ := q'
   cases g with
   | true => obtain ⟨vs',he,hc'⟩ := this; exact ⟨vs',he,scrub_RCs hi hM hRT hc'⟩
   | false =>
    match cs,this with
    | [x],this => exact scrub_R (x:=x) hi hM hRT this
theorem scrub_blk {E' : Env} {mov : List Nat} {b b' : Blk} {I : Info} {f : Nat × Nat -> Prop} (hi : ∀ t I,t ∉ mov -> E.info t = some I -> E'.info t = some I) (hM : ∀ a v,E.M a = some v -> E'.M a = some v) (hRT : RTok RT)
  (hb : scrubB mov (some b) = some b') (ok : BlkOK RT E b I f w) : BlkOK RT E' b' I f w where
 own := ok.own
 cap := ok.cap
 live := ok.live
 kind := by
  have hk := ok.kind
  cases b with
  | cells wd cs =>
   simp only [scrubB,Option.some.injEq] at hb
   subst hb
   refine ⟨hk.1,by rw [hk.2.1,scrubAs_eq]; simp,hk.2.2.1,fun j x hj => ?_⟩
   rw [scrubAs_eq,List.getElem?_map] at hj
   cases hq : cs[j]? with
   | none => simp [hq] at hj
   | some x' =>
    simp [hq] at hj
    subst hj
    obtain ⟨v,hv,hr⟩ := hk.2.2.2 j x' hq
    exact ⟨v,hv,scrub_R hi hM hRT hr⟩
  | ints g k xs => simp only [scrubB,Option.some.injEq] at hb; subst hb; exact hk
  | recs g T xs =>
   simp only [scrubB,Option.some.injEq] at hb; subst hb
   exact ⟨hk.1,hk.2.1,hk.2.2.1,fun i j x hi hj => let ⟨v,hv,hr⟩ := hk.2.2.2 i j x hi hj; ⟨v,hv,recA_R hj hM hr⟩⟩
  | hole kd xss i0 b0 =>
   simp only [scrubB] at hb
   split at hb
   ·simp at hb
   ·rename_i hb0
    simp only [Option.some.injEq] at hb; subst hb
    have hnm : b0 ∉ mov := fun hm => by rw [mem_iff.2 hm] at hb0; simp at hb0
    refine ⟨hk.1,hk.2.1,fun i hi' => ?_⟩
    obtain ⟨v,hv,hr⟩ := hk.2.2 i hi'
    refine ⟨v,hv,?_⟩
    split at hr
    ·rename_i he; rw [if_pos he]; cases hr with | full h hb hn hc hg => exact .full (hi _ _ hnm h) hb hn hc hg
    ·rename_i he; rw [if_neg he]; exact roi_R hM hr
theorem movOk_get : ∀ {l : List Nat} {t : Nat},movOk C l = true -> t ∈ l -> C.hi <= t \/ t ∈ C.mv
 | [],t,_,h => by simp at h
 | t' :: r,t,h,hm => by
  simp only [movOk,Bool.and_eq_true,Bool.or_eq_true] at h
  rcases List.mem_cons.1 hm with rfl | hm
  ·exact h.1.imp (by simp) mem_iff.1
  ·exact movOk_get h.2 hm
theorem behind {A : Ann} {G : List Nat} {c : Code} {Lc L' : Leaves} {nx n : Nat} {E0 : Env} {H0 : Heap} {fp0 : Fp} {Ex : Env} {fpx : Fp} {w' : World} {a' : Act} (hRT : RTok C.RT) (hok : annOk C A = true) (hnx : nx <= A.nx)
  (st : St C.RT E H fp w F a nx n) (hE0 : ∀ t,t < A.nx -> t ∉ A.mov -> E0.info t = E.info t)
  (hown0 : ∀ x,OwnAll H0 fp0 x -> ∃ id b,(id ∈ ids A.blks \/ id ∈ G) /\ H id = some b /\ fp id x)
  (sx : St C.RT Ex (fHeap L' Lc noHeap A.xblks) fpx w' (fSlots L' Lc noFr A.xslots) a' A.nx n)
  (hx : ∀ t I,Ex.info t = some I -> t < A.nx /\ t ∈ ids A.blks /\ (t ∈ A.mov \/ E0.info t = some I)) (hfrm : Frm w (OwnAll H0 fp0) w')
  (hown : ∀ x,OwnAll (fHeap L' Lc noHeap A.xblks) fpx x -> x.1 < w.heap.size -> OwnAll H0 fp0 x) (hsame : Same (asg c) a a')
  (hpl : A.plain = false -> (∀ ad v,E.M ad = some v -> Ex.M ad = some v) /\ MExt E H0 fp0 w Ex) :
  ∃ E' fp',St C.RT E' (heapBehind A G L' Lc H) fp' w' (frBehind A c L' Lc F) a' A.nx n /\ Trip C E H fp w nx E' (heapBehind A G L' Lc H) fp' w' A.nx := by
 unfold annOk at hok
 simp only [Bool.and_eq_true] at hok
 obtain ⟨hoL,hoM,hoD,hoX⟩ := hok
 let E' : Env := ⟨fun id => if id < A.nx then (if id ∈ A.mov /\ id ∈ ids A.blks then Ex.info id else E.info id) else none,if A.plain = true then E.M else Ex.M⟩
 have hMle : ∀ ad v,E.M ad = some v -> E'.M ad = some v := by
  intro ad v h
  simp only [E']
  split
  ·exact h
  ·rename_i hp
   exact (hpl (by simpa using hp)).1 ad v h
 have hMx : A.plain = false -> ∀ ad v,Ex.M ad = some v -> E'.M ad = some v := by
  intro hp ad v h
  simp only [E',hp]
  exact h
 have hExt : MExt E H0 fp0 w E' := by
  intro ad v h
  simp only [E'] at h
  split at h
  ·exact Or.inl h
  ·rename_i hp
   exact (hpl (by simpa using hp)).2 ad v h
 let fp' : Fp := fun id => if id ∈ ids A.blks then fpx id else fp id
 have hix : ∀ t I,Ex.info t = some I -> E'.info t = some I := by
  intro t I hI
  obtain ⟨h1,h2,h3⟩ := hx t I hI
  simp only [E',if_pos h1]
  split
  ·exact hI
  ·rename_i hm
   have hm' : t ∉ A.mov := fun h => hm ⟨h,h2⟩
   rcases h3 with h3 | h3
   ·exact absurd h3 hm'
   ·rw [<- hE0 t h1 hm']; exact h3
 have hie : ∀ t I,t ∉ A.mov -> E.info t = some I -> E'.info t = some I := by
  intro t I hm hI
  have ht : t < A.nx := by
   rcases Nat.lt_or_ge t nx with h | h
   ·omega
   ·rw [st.fresh t h] at hI; simp at hI
  simp only [E',if_pos ht,if_neg (fun h : t ∈ A.mov /\ t ∈ ids A.blks => hm h.1)]
  exact hI
 have hfr' : Fresh E' A.nx := fun id hid => by simp only [E']; rw [if_neg (by omega)]
 have hapart : ∀ {id b x},H id = some b -> (id ∉ ids A.blks /\ id ∉ G) -> fp id x -> ¬ OwnAll H0 fp0 x := by
  intro id b x hb hn hx' ho
  obtain ⟨id',b',h1,h2,h3⟩ := hown0 x ho
  exact st.sim.disj id id' b b' x hb h2 (fun he => h1.elim (fun h => hn.1 (he ▸ h)) (fun h => hn.2 (he ▸ h))) hx' h3
 have hheap : ∀ {id b},heapBehind A G L' Lc H id = some b -> (id ∈ ids A.blks /\ fHeap L' Lc noHeap A.xblks id = some b) \/ ((id ∉ ids A.blks /\ id ∉ G) /\ ∃ b0,H id = some b0 /\ scrubB A.mov (some b0) = some b) := by
  intro id b hb
  unfold heapBehind at hb
  rcases fHeap_over L' Lc A.xblks id with ⟨h1,h2⟩ | ⟨h1,h2⟩
  ·rw [h2] at hb
   obtain ⟨I,hI,_⟩ := sx.sim.blk id b hb
   exact Or.inl ⟨(hx id I hI).2.1,hb⟩
  ·rw [h2] at hb
   split at hb
   ·simp at hb
   ·rename_i hm
    have hn : id ∉ ids A.blks /\ id ∉ G := ⟨fun h => by rw [mem_iff.2 h] at hm; simp at hm,fun h => by rw [mem_iff.2 h] at hm; simp at hm⟩
    cases hH : H id with
    | none => rw [hH] at hb; simp [scrubB] at hb
    | some b0 => rw [hH] at hb; exact Or.inr ⟨hn,b0,rfl,hb⟩
 have hown' : ∀ x,OwnAll (heapBehind A G L' Lc H) fp' x -> x.1 < w.heap.size -> OwnAll H fp x := by
  rintro x ⟨id,b,hb,hx'⟩ hlt
  rcases hheap hb with ⟨h1,h2⟩ | ⟨h1,b0,h2,_⟩
  ·simp only [fp',if_pos h1] at hx'
   obtain ⟨id',b',_,h3,h4⟩ := hown0 x (hown x ⟨id,b,h2,hx'⟩ hlt)
   exact ⟨id',b',h3,h4⟩
  ·simp only [fp',if_neg h1.1] at hx'
   exact ⟨id,b0,h2,hx'⟩
 refine ⟨E',fp',⟨⟨fun id b hb => ?_,fun i j b b' x hb hb' hij hxi hxj => ?_,fun ad v hm => ?_⟩,hfr',fun j => ?_,sx.size,sx.df⟩,⟨fun id I h1 h2 hI => ?_,hMle,?_,hown',hnx,hfr',?_⟩⟩
 ·rcases hheap hb with ⟨h1,h2⟩ | ⟨h1,b0,h2,h3⟩
  ·obtain ⟨I,hI,ok⟩ := sx.sim.blk id b h2
   refine ⟨I,hix _ _ hI,?_⟩
   simp only [fp',if_pos h1]
   rcases fHeap_get L' Lc noHeap h2 with ⟨q,hq,_,hfb⟩ | ⟨h,_⟩
   ·cases hp : A.plain with
    | true =>
     have hp' := hp
     simp only [Ann.plain,Bool.and_eq_true] at hp'
     exact noRo_blk hix (fun wd ps he => noRoB_get hp'.2 hq he) (noRoB_recs hp'.2 hq) hfb ok
    | false => exact ok.mono ⟨hix,hMx hp⟩
   ·simp [noHeap] at h
  ·obtain ⟨I,hI,ok⟩ := st.sim.blk id b0 h2
   refine ⟨I,?_,?_⟩
   ·have ht : id < A.nx := by
     rcases Nat.lt_or_ge id nx with h | h
     ·omega
     ·rw [st.fresh id h] at hI; simp at hI
    simp only [E',if_pos ht,if_neg (fun h : id ∈ A.mov /\ id ∈ ids A.blks => h1.1 h.2)]
    exact hI
   ·simp only [fp',if_neg h1.1]
    exact scrub_blk hie hMle hRT h3 (ok.frm hfrm fun x hx => hapart h2 h1 hx)
 ·rcases hheap hb with ⟨h1,h2⟩ | ⟨h1,b0,h2,_⟩ <;> rcases hheap hb' with ⟨g1,g2⟩ | ⟨g1,c0,g2,_⟩
  ·simp only [fp',if_pos h1] at hxi
   simp only [fp',if_pos g1] at hxj
   exact sx.sim.disj _ _ _ _ x h2 g2 hij hxi hxj
  ·simp only [fp',if_pos h1] at hxi
   simp only [fp',if_neg g1.1] at hxj
   exact hapart g2 g1 hxj (hown x ⟨i,b,h2,hxi⟩ (st.sim.cell_lt g2 hxj))
  ·simp only [fp',if_neg h1.1] at hxi
   simp only [fp',if_pos g1] at hxj
   exact hapart h2 h1 hxi (hown x ⟨j,b',g2,hxj⟩ (st.sim.cell_lt h2 hxi))
  ·simp only [fp',if_neg h1.1] at hxi
   simp only [fp',if_neg g1.1] at hxj
   exact st.sim.disj _ _ _ _ x h2 g2 hij hxi hxj
 ·have hold : ∀ {ad v},E.M ad = some v -> ad.spot = none /\ w'.cell? ad = some v /\ ∀ i b,heapBehind A G L' Lc H i = some b -> ¬ fp' i (ad.block,ad.off) := by
   intro ad v hm
   obtain ⟨h1,h2,h3⟩ := st.sim.ro ad v hm
   have hno : ¬ OwnAll H0 fp0 (ad.block,ad.off) := by
    intro ho
    obtain ⟨id,b,_,g2,g3⟩ := hown0 _ ho
    exact h3 id b g2 g3
   refine ⟨h1,hfrm.cell h2 hno,fun i b hb hxi => ?_⟩
   rcases hheap hb with ⟨g1,g2⟩ | ⟨g1,b0,g2,_⟩
   ·simp only [fp',if_pos g1] at hxi
    exact hno (hown _ ⟨i,b,g2,hxi⟩ (World.block_lt_of_cell? _ _ h2))
   ·simp only [fp',if_neg g1.1] at hxi
    exact h3 i b0 g2 hxi
  simp only [E'] at hm
  split at hm
  ·exact hold hm
  ·rename_i hp
   have hp' : A.plain = false := by simpa using hp
   obtain ⟨h1,h2,h3⟩ := sx.sim.ro ad v hm
   refine ⟨h1,h2,fun i b hb hxi => ?_⟩
   rcases hheap hb with ⟨g1,g2⟩ | ⟨g1,b0,g2,_⟩
   ·simp only [fp',if_pos g1] at hxi
    exact h3 i b g2 hxi
   ·simp only [fp',if_neg g1.1] at hxi
    rcases (hpl hp').2 ad v hm with hx' | hx' | hx'
    ·exact (st.sim.ro ad v hx').2.2 i b0 g2 hxi
    ·have := st.sim.cell_lt g2 hxi
     simp only at this
     omega
    ·exact hapart g2 g1 hxi hx'
 ·unfold frBehind
  have hsx := sx.rf j
  rcases fSlots_get L' Lc A.xslots j with ⟨q,hq,rfl,hv⟩ | hv
  ·rw [hv] at hsx ⊢
   cases hp : A.plain with
   | true =>
    have hp' := hp
    simp only [Ann.plain,Bool.and_eq_true] at hp'
    exact noRo_RV hix (noRoS_get hp'.1 hq) hsx
   | false => exact hsx.mono ⟨hix,hMx hp⟩
  ·rw [hv]
   split
   ·exact R.unk _
   ·rename_i hg
    rw [hsame j hg]
    exact scrub_RV hie hMle hRT (st.rf j)
 ·refine hie id I ?_ hI
  intro hm
  rcases movOk_get hoM hm with h | h
  ·omega
  ·exact h2 h
 ·exact hfrm.mono fun x ho => let ⟨id,b,_,g2,g3⟩ := hown0 x ho; ⟨id,b,g2,g3⟩
 ·intro ad v h
  rcases hExt ad v h with h | h | h
  ·exact Or.inl h
  ·exact Or.inr (Or.inl h)
  ·exact Or.inr (Or.inr (let ⟨id,b,_,g2,g3⟩ := hown0 _ h; ⟨id,b,g2,g3⟩))
theorem CfgOK.inLoop (hC : CfgOK C) (A : Ann) : CfgOK (C.inLoop A) := ⟨hC.rt,hC.wide,hC.specs,hC.exts,hC.meths,hC.laws⟩
theorem Post.mono_asg {Z : Type} {z : Z} {kr : KS Z} {k : Ex -> KS Z} {nx n : Nat} {g g' : Nat -> Bool} (hg : ∀ j,g j = true -> g' j = true) {e : Exit} {a' : Act} {w' : World}
  (h : Post C z kr k E H fp w nx a n g e a' w') : Post C z kr k E H fp w nx a n g' e a' w' := by
 cases e with
 | normal => obtain ⟨F',H',nx',E',fp',h1,h2,h3,h4⟩ := h; exact ⟨F',H',nx',E',fp',h1,h2,h3,h4.mono hg⟩
 | exit id => obtain ⟨F',H',nx',E',fp',h1,h2,h3,h4⟩ := h; exact ⟨F',H',nx',E',fp',h1,h2,h3,h4.mono hg⟩
 | ret => obtain ⟨F',H',nx',E',fp',h1,h2,h3,h4⟩ := h; exact ⟨F',H',nx',E',fp',h1,h2,h3,h4.mono hg⟩
 | _ => exact h.elim
theorem Post.after {Z : Type} {z : Z} {kr : KS Z} {k : Ex -> KS Z} {nx nx1 n : Nat} {g : Nat -> Bool} {E1 : Env} {H1 : Heap} {fp1 : Fp} {w1 : World} {a1 : Act}
  (ht : Trip C E H fp w nx E1 H1 fp1 w1 nx1) (hs : Same g a a1) {e : Exit} {a' : Act} {w' : World}
  (h : Post C z kr k E1 H1 fp1 w1 nx1 a1 n g e a' w') : Post C z kr k E H fp w nx a n g e a' w' := by
 cases e with
 | normal => obtain ⟨F',H',nx',E',fp',h1,h2,h3,h4⟩ := h; exact ⟨F',H',nx',E',fp',h1,h2,ht.trans h3,hs.trans h4⟩
 | exit id => obtain ⟨F',H',nx',E',fp',h1,h2,h3,h4⟩ := h; exact ⟨F',H',nx',E',fp',h1,h2,ht.trans h3,hs.trans h4⟩
 | ret => obtain ⟨F',H',nx',E',fp',h1,h2,h3,h4⟩ := h; exact ⟨F',H',nx',E',fp',h1,h2,ht.trans h3,hs.trans h4⟩
 | _ => exact h.elim
def AnnsOK (K : FCfg) : Prop := ∀ q ∈ K.anns,AnnOK q.2
theorem unroll_rounds {K : FCfg} {inl : Inl} {c : Code} {Z : Type} {z : Z} {kr : KS Z} {k : Ex -> KS Z} {n : Nat} (hb : CodeOK C K inl c) (hd : dstsOk n c = true) :
  ∀ (N : Nat) (F : Fr) (H : Heap) (nx : Nat) (E : Env) (fp : Fp) (w : World) (a : Act),unrollF (evCode C K inl c) kr k N F H nx = some z -> St C.RT E H fp w F a nx n ->
   Code.rounds C.P c (Post C z kr k E H fp w nx a n (asg c)) N a w
 | 0,F,H,nx,E,fp,w,a,hk,_ => by simp [unrollF] at hk
 | N + 1,F,H,nx,E,fp,w,a,hk,st => by
  simp only [unrollF] at hk
  rw [rounds_succ]
  refine wp_mono (hb Z z _ _ _ _ _ E fp w a n hk st hd) fun e a' w' hq => ?_
  cases e with
  | normal =>
   obtain ⟨F',H',nx',E',fp',h1,h2,h3,h4⟩ := hq
   have := unroll_rounds hb hd N F' H' nx' E' fp' w' a' h1 h2
   refine rounds_mono N (fun e a'' w'' h => Post.after h3 h4 h) this
  | exit id => obtain ⟨F',H',nx',E',fp',h1,h2,h3,h4⟩ := hq; exact ⟨F',H',nx',E',fp',h1,h2,h3,h4⟩
  | ret => obtain ⟨F',H',nx',E',fp',h1,h2,h3,h4⟩ := hq; exact ⟨F',H',nx',E',fp',h1,h2,h3,h4⟩
  | _ => exact hq.elim
where
 rounds_mono {P : Program} {c : Code} {Q Q' : Exit -> Act -> World -> Prop} : ∀ (N : Nat) {a : Act} {w : World},(∀ e a w,Q e a w -> Q' e a w) -> Code.rounds P c Q N a w -> Code.rounds P c Q' N a w
  | 0,_,_,_,h => h.elim
  | N + 1,a,w,hq,h => by
   rw [rounds_succ] at h ⊢
   refine wp_mono h fun e a' w' hq' => ?_
   cases e with
   | normal => exact rounds_mono N hq hq'
   | _ => exact hq _ _ _ hq'
theorem loop_sound (hC : CfgOK C) {K : FCfg} {inl : Inl} {A : Ann} (hA : AnnOK A) {c : Code} (hb : CodeOK (C.inLoop A) K inl c) {Z : Type} {z : Z} {kr : KS Z} {k : Ex -> KS Z} {nx n : Nat}
  (hk : gate (annOk C A && Nat.ble nx A.nx) (mState A.nx H none F A.slots A.blks fun m =>
    gate (namedOnly (ids A.blks) 0 m.σ && (viewsIn A.mov nx 0 m.σ && (viewsApart m.σ && (lentApart m.σ m.lent && A.lentOk m.lent)))) (match A.ret with
     | false => obind (loopF A m.fixed (evCode (C.inLoop A) K inl c) C.N m.leaves) fun t =>
       k (.exit A.exId) (frBehind A c (A.enc t) m.fixed F) (heapBehind A (wholeIds m.σ) (A.enc t) m.fixed H) A.nx
     | true => osum (loopR A m.fixed (evCode (C.inLoop A) K inl c) kr C.N m.leaves) fun t =>
       k (.exit A.exId) (frBehind A c (A.enc t) m.fixed F) (heapBehind A (wholeIds m.σ) (A.enc t) m.fixed H) A.nx)) = some z)
  (st : St C.RT E H fp w F a nx n) (hd : dstsOk n c = true) : (Code.loop c).wp C.P (Post C z kr k E H fp w nx a n (asg c)) a w := by
 rw [gate_some] at hk
 obtain ⟨hg,hk⟩ := hk
 simp only [Bool.and_eq_true] at hg
 obtain ⟨hok,hnx⟩ := hg
 have hnx : nx <= A.nx := by simpa using hnx
 simp only [mState] at hk
 obtain ⟨m1,h1,e1,k1⟩ := mSlots_sound hk
 obtain ⟨m,h2,e2,k2⟩ := mBlks_sound h1
 rw [gate_some] at h2
 obtain ⟨hg,h2⟩ := h2
 simp only [Bool.and_eq_true] at hg
 obtain ⟨hn,hvi,hva,hla,hlo⟩ := hg
 have hsl := k1 m e2
 have hbl := k2 m (.refl m)
 simp only [lcOf] at hsl hbl
 have hlen : m.σ.length = A.nx := by rw [(e1.trans e2).σlen]; exact nones_length _
 have hv : ∀ t v,m.σ[t]? = some v -> v = .none \/ t ∈ A.mov \/ v = .whole t := by
  intro t v h
  rcases viewsIn_get hvi h with h | h | ⟨h,_⟩
  ·exact Or.inl h
  ·rw [Nat.zero_add] at h; exact Or.inr (Or.inr h)
  ·rw [Nat.zero_add] at h; exact Or.inr (Or.inl h)
 have hp : ∀ (t id lo n : Nat) g kd xs,m.σ[t]? = some (.part id lo n) -> H id = some (.ints g kd xs) -> lo + n <= xs.length := by
  intro t id lo n g kd xs h _
  rcases viewsIn_get hvi h with h | h | ⟨_,_,h | ⟨_,h⟩⟩ <;> simp at h
 have hle := baseL_le (E:=E) (H:=H) (fp:=fp) (w:=w) (lent:=m.lent) hlen hv
 have hbase := Sim.base hC.rt st.sim hbl hva hla hp
 have hsim := hbase.le hle (fun _ _ h => h)
 have hrf := (base_rf hC.rt st.sim st.rf hsl).mono hle
 have hok' := hok
 unfold annOk at hok'
 simp only [Bool.and_eq_true] at hok'
 obtain ⟨hoL,hoM,hoD,_⟩ := hok'
 have hst0 : St C.RT (baseL E H fp w m.σ m.lent A.mov A.nx) (fHeap m.leaves m.fixed noHeap A.blks) (baseFp E fp m.σ) w (fSlots m.leaves m.fixed noFr A.slots) a A.nx n :=
  ⟨hsim,fun id hid => by simp only [baseL]; rw [if_neg (by omega)],hrf,st.size,st.df⟩
 have hhead : Head C A m.fixed (baseL E H fp w m.σ m.lent A.mov A.nx) (fHeap m.leaves m.fixed noHeap A.blks) (baseFp E fp m.σ) w a n (asg c) m.leaves
   (baseL E H fp w m.σ m.lent A.mov A.nx) (baseFp E fp m.σ) w a :=
  ⟨hst0,⟨fun _ _ _ _ h => h,fun _ _ h => h,.refl _ _,fun _ h _ => h,.refl _ _ _ _⟩,.refl _ _⟩
 have hlive : ∀ t ∈ ids A.blks,∃ J,(baseL E H fp w m.σ m.lent A.mov A.nx).info t = some J := by
  intro t ht
  obtain ⟨p,hp'⟩ := ids_mem.1 ht
  have hb' := fHeap_live (L:=m.leaves) (Lc:=m.fixed) hoD hp'
  obtain ⟨b,hb0⟩ := (fBlk_live (L:=m.leaves) (Lc:=m.fixed)).1 (allLive_get hoL hp')
  rw [hb0] at hb'
  obtain ⟨I,hI,_⟩ := hsim.blk t b hb'
  exact ⟨I,hI⟩
 have hE0 : ∀ t,t < A.nx -> t ∉ A.mov -> (baseL E H fp w m.σ m.lent A.mov A.nx).info t = E.info t := fun t h1 h2 => by simp only [baseL,if_pos h1,if_neg h2]
 have hown0 : ∀ x,OwnAll (fHeap m.leaves m.fixed noHeap A.blks) (baseFp E fp m.σ) x -> ∃ id b,(id ∈ ids A.blks \/ id ∈ wholeIds m.σ) /\ H id = some b /\ fp id x := by
  rintro x ⟨t,b,hb',hx⟩
  obtain ⟨v,id,b',g1,g2,g3,g4⟩ := base_own st.sim hbl hp hb' hx
  refine ⟨id,b',?_,g3,g4⟩
  rcases viewsIn_get hvi g1 with rfl | rfl | ⟨_,_,rfl | ⟨id',rfl⟩⟩
  ·simp [viewId] at g2
  ·simp only [viewId,Option.some.injEq] at g2
   rw [<- g2]; exact Or.inr (wholeIds_mem g1)
  ·simp [viewId] at g2
  ·simp only [viewId,Option.some.injEq] at g2
   rw [<- g2]; exact Or.inr (wholeIds_mem g1)
 -- where it is left
 have hexit : ∀ {L' Ex fpx w' a' t},t = A.dec L' -> k (.exit A.exId) (frBehind A c (A.enc t) m.fixed F) (heapBehind A (wholeIds m.σ) (A.enc t) m.fixed H) A.nx = some z ->
   St C.RT Ex (fHeap L' m.fixed noHeap A.xblks) fpx w' (fSlots L' m.fixed noFr A.xslots) a' A.nx n ->
   (∀ t I,Ex.info t = some I -> t < A.nx /\ t ∈ ids A.blks /\ (t ∈ A.mov \/ (baseL E H fp w m.σ m.lent A.mov A.nx).info t = some I)) ->
   Frm w (OwnAll (fHeap m.leaves m.fixed noHeap A.blks) (baseFp E fp m.σ)) w' ->
   (∀ x,OwnAll (fHeap L' m.fixed noHeap A.xblks) fpx x -> x.1 < w.heap.size -> OwnAll (fHeap m.leaves m.fixed noHeap A.blks) (baseFp E fp m.σ) x) -> Same (asg c) a a' ->
   (A.plain = false -> (∀ ad v,(baseL E H fp w m.σ m.lent A.mov A.nx).M ad = some v -> Ex.M ad = some v) /\ MExt (baseL E H fp w m.σ m.lent A.mov A.nx) (fHeap m.leaves m.fixed noHeap A.blks) (baseFp E fp m.σ) w Ex) ->
   Post C z kr k E H fp w nx a n (asg c) (.exit A.exId) a' w' := by
  rintro L' Ex fpx w' a' t rfl hkk sx hx hfrm hown hsame hpl
  obtain ⟨E',fp',g1,g2⟩ := behind hC.rt hok hnx st hE0 hown0 sx hx hfrm hown hsame fun hp => by
   obtain ⟨p1,p2⟩ := hpl hp
   have hl : noLent m.lent = true := by simpa [Ann.lentOk,hp] using hlo
   refine ⟨fun ad v h => p1 ad v (baseE_M (H:=H) (fp:=fp) (w:=w) (σ:=m.σ) (lent:=m.lent) h),fun ad v h => ?_⟩
   rcases p2 ad v h with h | h | h
   ·exact Or.inl (baseE_none (σ:=m.σ) hl h)
   ·exact Or.inr (Or.inl h)
   ·exact Or.inr (Or.inr h)
  obtain ⟨q1,q2⟩ := hA L' m.fixed
  unfold frBehind heapBehind at hkk
  rw [fSlots_congr q1,fHeap_congr q2] at hkk
  exact ⟨_,_,_,E',fp',hkk,g1,g2,hsame⟩
 split at h2
 ·rw [obind_some] at h2
  obtain ⟨t,ht,hkk⟩ := h2
  rw [loopF_eq] at ht
  refine wp_loop_rounds C.N (unroll_rounds.rounds_mono C.N (fun e a' w' hq => ?_) (loop_rounds hC.rt hb hd hlive C.N m.leaves _ _ w a ht hhead))
  cases e with
  | exit id =>
   obtain ⟨rfl,L',Ex,fpx,q1,q2,q3,q4,q5,q6,q7⟩ := hq
   exact hexit q1.symm hkk q2 q3 q4 q5 q6 q7
  | ret => obtain ⟨F',H',nx',E',fp',q1,_⟩ := hq; simp at q1
  | _ => exact hq.elim
 ·unfold osum at h2
  split at h2
  ·rename_i t ht
   rw [loopR_eq] at ht
   refine wp_loop_rounds C.N (unroll_rounds.rounds_mono C.N (fun e a' w' hq => ?_) (loop_rounds hC.rt hb hd hlive C.N m.leaves _ _ w a ht hhead))
   cases e with
   | exit id =>
    obtain ⟨rfl,L',Ex,fpx,q1,q2,q3,q4,q5,q6,q7⟩ := hq
    simp only [Sum.inl.injEq] at q1
    exact hexit q1.symm h2 q2 q3 q4 q5 q6 q7
   | ret =>
    obtain ⟨F',H',nx',E',fp',q1,_⟩ := hq
    cases hkr : kr F' H' nx' <;> simp [omap,hkr] at q1
   | _ => exact hq.elim
  ·rename_i z' ht
   simp only [Option.some.injEq] at h2
   subst h2
   rw [loopR_eq] at ht
   refine wp_loop_rounds C.N (unroll_rounds.rounds_mono C.N (fun e a' w' hq => ?_) (loop_rounds hC.rt hb hd hlive C.N m.leaves _ _ w a ht hhead))
   cases e with
   | exit id =>
    obtain ⟨rfl,L',Ex,fpx,q1,_⟩ := hq
    simp at q1
   | ret =>
    obtain ⟨F',H',nx',E',fp',q1,q2,q3,q4,q5⟩ := hq
    have hkr : kr F' H' nx' = some z' := by
     cases hkr : kr F' H' nx' with
     | none => simp [omap,hkr] at q1
     | some z'' => simp [omap,hkr] at q1; rw [q1]
    refine ⟨F',H',nx',E',fp',hkr,q2,⟨fun id I h1 h2 hI => ?_,fun ad v h => q3.M ad v (baseE_M (H:=H) (fp:=fp) (w:=w) (σ:=m.σ) (lent:=m.lent) h),?_,fun x hx hlt => ?_,Nat.le_trans hnx q4,q2.fresh,fun ad v h => ?_⟩,q5⟩
    ·have hid : id < A.nx := by
      rcases Nat.lt_or_ge id nx with h | h
      ·omega
      ·rw [st.fresh id h] at hI; simp at hI
     have hmv : id ∉ A.mov := by
      intro hm
      rcases movOk_get hoM hm with h | h
      ·omega
      ·exact h2 h
     exact q3.keep id I hid hmv (by rw [hE0 id hid hmv]; exact hI)
    ·exact q3.frm.mono fun x ho => let ⟨id,b,_,g2,g3⟩ := hown0 x ho; ⟨id,b,g2,g3⟩
    ·obtain ⟨id,b,_,g2,g3⟩ := hown0 x (q3.own x hx hlt)
     exact ⟨id,b,g2,g3⟩
    ·rcases q3.ext ad v h with h | h | h
     ·exact baseE_ext (σ:=m.σ) (lent:=m.lent) ad v h
     ·exact Or.inr (Or.inl h)
     ·exact Or.inr (Or.inr (let ⟨id,b,_,g2,g3⟩ := hown0 _ h; ⟨id,b,g2,g3⟩))
   | _ => exact hq.elim
  ·simp at h2
theorem evCode_sound {K : FCfg} (hK : AnnsOK K) {inl : Inl} : ∀ (c : Code) (C : Cfg),CfgOK C -> InlOK C inl -> CodeOK C K inl c := by
 intro c
 induction c with
 | skip =>
  intro C hC hinl Z z kr k F H nx E fp w a n hk st hd
  exact wp_skip ⟨F,H,nx,E,fp,hk,st,.refl st.fresh,.refl _ _⟩
 | region id ops draw =>
  intro C hC hinl Z z kr k F H nx E fp w a n hk st hd
  simp only [evCode] at hk
  cases draw with
  | false =>
   exact wp_region_list (evOps_sound hC hinl hk st hd fun F' H' nx' E' fp' a' w' g1 g2 g3 g4 => ⟨F',H',nx',E',fp',g1,g2,g3,g4⟩)
  | true =>
   exact evDraw_sound hC hk st hd fun F' H' nx' E' fp' a' w' g1 g2 g3 g4 => ⟨F',H',nx',E',fp',g1,g2,g3,g4⟩
 | seq x z ihx ihz =>
  intro C hC hinl Z zz kr k F H nx E fp w a n hk st hd
  simp only [evCode] at hk
  simp only [dstsOk,Bool.and_eq_true] at hd
  refine wp_seq (wp_mono (ihx C hC hinl Z zz kr _ F H nx E fp w a n hk st hd.1) fun e a' w' hq => ?_)
  have hm1 : ∀ j,asg x j = true -> asg (.seq x z) j = true := fun j h => by simp [asg,h]
  have hm2 : ∀ j,asg z j = true -> asg (.seq x z) j = true := fun j h => by simp [asg,h]
  cases e with
  | normal =>
   obtain ⟨F',H',nx',E',fp',g1,g2,g3,g4⟩ := hq
   exact wp_mono (ihz C hC hinl Z zz kr k F' H' nx' E' fp' w' a' n g1 g2 hd.2) fun e a'' w'' h => Post.after g3 (g4.mono hm1) (h.mono_asg hm2)
  | exit id => obtain ⟨F',H',nx',E',fp',g1,g2,g3,g4⟩ := hq; exact ⟨F',H',nx',E',fp',g1,g2,g3,g4.mono hm1⟩
  | ret => obtain ⟨F',H',nx',E',fp',g1,g2,g3,g4⟩ := hq; exact ⟨F',H',nx',E',fp',g1,g2,g3,g4.mono hm1⟩
  | goto l => exact hq.elim
  | panic ch => exact hq.elim
  | outgrown => exact hq.elim
 | cond x t e iht ihe =>
  intro C hC hinl Z zz kr k F H nx E fp w a n hk st hd
  simp only [evCode] at hk
  simp only [dstsOk,Bool.and_eq_true] at hd
  split at hk
  ·rename_i b hb
   have hv : RV C.RT E (evOpd F x) (a.eval x) := opd_sound st.rf x
   rw [hb] at hv
   have hx : a.eval x = .bool b := R.bool_inv hv
   refine wp_cond_split hx (fun hbt => ?_) (fun hbf => ?_)
   ·subst hbt
    exact wp_mono (iht C hC hinl Z zz kr k F H nx E fp w a n hk st hd.1) fun e a' w' h => h.mono_asg fun j h => by simp [asg,h]
   ·subst hbf
    exact wp_mono (ihe C hC hinl Z zz kr k F H nx E fp w a n hk st hd.2) fun e a' w' h => h.mono_asg fun j h => by simp [asg,h]
  ·simp at hk
 | block id c ih =>
  intro C hC hinl Z zz kr k F H nx E fp w a n hk st hd
  simp only [evCode] at hk
  refine wp_block (wp_mono (ih C hC hinl Z zz kr _ F H nx E fp w a n hk st hd) fun e a' w' hq => ?_)
  cases e with
  | normal => exact hq
  | exit id' =>
   obtain ⟨F',H',nx',E',fp',g1,g2,g3,g4⟩ := hq
   simp only at g1
   simp only [Exit.inBlock]
   split at g1
   ·rename_i hb
    rw [if_pos (Nat.eq_of_beq_eq_true hb)]
    exact ⟨F',H',nx',E',fp',g1,g2,g3,g4⟩
   ·rename_i hb
    rw [if_neg (fun he => by subst he; simp at hb)]
    exact ⟨F',H',nx',E',fp',g1,g2,g3,g4⟩
  | ret => exact hq
  | goto l => exact hq.elim
  | panic ch => exact hq.elim
  | outgrown => exact hq.elim
 | loop c ih =>
  intro C hC hinl Z zz kr k F H nx E fp w a n hk st hd
  simp only [evCode] at hk
  split at hk
  ·rename_i A hA
   exact loop_sound hC (hK _ (find_mem hA)) (ih (C.inLoop A) (hC.inLoop A) hinl) hk st hd
  ·split at hk
   ·rename_i N hN
    exact wp_loop_rounds N (unroll_rounds (ih C hC hinl) hd N F H nx E fp w a hk st)
   ·simp [noAnn] at hk
 | exit id =>
  intro C hC hinl Z z kr k F H nx E fp w a n hk st hd
  exact wp_exit ⟨F,H,nx,E,fp,hk,st,.refl st.fresh,.refl _ _⟩
 | ret =>
  intro C hC hinl Z z kr k F H nx E fp w a n hk st hd
  exact wp_ret ⟨F,H,nx,E,fp,hk,st,.refl st.fresh,.refl _ _⟩
 | _ =>
  intro C hC hinl Z z kr k F H nx E fp w a n hk st hd
  simp [evCode] at hk
end Go.Eng
/-
 The engine, part fourteen: functions and laws.
 Conditions: none; nothing is claimed of the program here.
-/
namespace Go.Eng
variable {RT : RoTab} {E : Env} {F : Fr} {a : Act} {H : Heap} {fp : Fp} {w : World} {P : Program} {Y : Type} {y : Y} {C : Cfg}
def resOf (tmps : Array Value) : ResultVar -> Sem Value
 | .tmp t => pure (tmps.getD t undef)
 | .cell a t => do loadVar t (<- asAddr (tmps.getD a undef))
theorem load_var_run {t : TypeId} {u u' : Value} (h : (Instr.loadAt t u).run P w = .ok u' w) : (do loadVar t (<- asAddr u) : Sem Value).run P w = .ok u' w := by
 cases u with
 | pointer p =>
  cases p with
  | none => simp [Instr.loadAt,Instr.sureAddr] at h
  | some ad => simpa [Instr.loadAt,Instr.sureAddr,asAddr] using h
 | _ => simp [Instr.loadAt,Instr.sureAddr] at h
theorem results_eq (fn : Func) (tmps : Array Value) : results fn tmps = (do
  let vs <- fn.results.mapM (resOf tmps)
  pure (if h : vs.size = 1 then vs[0] else .tuple vs)) := by
 unfold results
 congr 1
theorem resVars_sound (hs : Sim RT E H fp w) (hF : RF RT E F a) : ∀ {l : List ResultVar} {k : List AV -> Option Y},resVars P H F l k = some y ->
  ∃ (vs : List AV) (us : List Value),k vs = some y /\ (l.mapM (resOf a.tmps)).run P w = .ok us w /\ All2 (RV RT E) vs us
 | [],k,h => by
  simp only [resVars] at h
  exact ⟨[],[],h,by simp,.nil⟩
 | .tmp t :: r,k,h => by
  simp only [resVars] at h
  obtain ⟨vs,us,h0,h1,h2⟩ := resVars_sound hs hF h
  refine ⟨F t :: vs,a.tmps.getD t undef :: us,h0,?_,.cons (hF t) h2⟩
  rw [List.mapM_cons]
  simp only [resOf,Sem.run_bind,Sem.run_pure,Result.andThen_ok,h1]
 | .cell x t :: r,k,h => by
  simp only [resVars] at h
  split at h
  ·rename_i xa hx
   have hFx := hF x
   rw [hx] at hFx
   obtain ⟨v,u,h0,h1,h2⟩ := load_sound hs (x:=xa) hFx h
   obtain ⟨vs,us,g0,g1,g2⟩ := resVars_sound hs hF h0
   refine ⟨v :: vs,u :: us,g0,?_,.cons h2 g2⟩
   rw [List.mapM_cons]
   have hl : (resOf a.tmps (.cell x t)).run P w = .ok u w := load_var_run h1
   simp only [Sem.run_bind,Sem.run_pure,Result.andThen_ok,g1,hl]
  ·simp at h
theorem tupOf_sound : ∀ {vs : List AV} {us : List Value} {ps : List (Bool × List Atom)},tupOf vs = some ps -> All2 (RV RT E) vs us -> us.length = ps.length /\ ∀ j p,ps[j]? = some p -> RP RT E p (us.getD j undef)
 | [],_,ps,h,.nil => by
  simp only [tupOf,Option.some.injEq] at h
  subst h
  exact ⟨rfl,fun j p hj => by simp at hj⟩
 | .at x :: r,u :: us,ps,h,.cons hx hs => by
  simp only [tupOf] at h
  split at h
  ·rename_i l hl
   simp only [Option.some.injEq] at h
   subst h
   obtain ⟨h1,h2⟩ := tupOf_sound hl hs
   refine ⟨by simp [h1],fun j p hj => ?_⟩
   cases j with
   | zero => simp at hj; subst hj; exact hx
   | succ j => simpa using h2 j p (by simpa using hj)
  ·simp at h
 | .agg xs :: r,u :: us,ps,h,.cons hx hs => by
  simp only [tupOf] at h
  split at h
  ·rename_i l hl
   simp only [Option.some.injEq] at h
   subst h
   obtain ⟨h1,h2⟩ := tupOf_sound hl hs
   refine ⟨by simp [h1],fun j p hj => ?_⟩
   cases j with
   | zero => simp at hj; subst hj; exact hx
   | succ j => simpa using h2 j p (by simpa using hj)
  ·simp at h
 | .tup _ :: _,_ :: _,ps,h,_ => by simp [tupOf] at h
theorem resA_sound {fn : Func} {k : AV -> Option Y} (hs : Sim RT E H fp w) (hF : RF RT E F a) (hk : resA P fn F H k = some y) : ∃ v u,k v = some y /\ (results fn a.tmps).run P w = .ok u w /\ RV RT E v u := by
 unfold resA at hk
 obtain ⟨vs,us,h0,h1,h2⟩ := resVars_sound hs hF hk
 have hrun : (results fn a.tmps).run P w = .ok (if h : us.toArray.size = 1 then us.toArray[0] else .tuple us.toArray) w := by
  rw [results_eq,Array.mapM_eq_mapM_toList]
  simp only [Sem.run_bind,Sem.run_map,h1,Result.andThen_ok,Sem.run_pure]
 split at h0
 ·rename_i v
  cases h2 with
  | cons hx hs =>
   cases hs
   refine ⟨v,_,h0,hrun,?_⟩
   simpa using hx
 ·rename_i hne
  split at h0
  ·rename_i ps hps
   obtain ⟨h3,h4⟩ := tupOf_sound hps h2
   refine ⟨_,_,h0,hrun,?_⟩
   have hlen := h2.length
   have hn1 : ¬ us.toArray.size = 1 := by
    intro he
    have : vs.length = 1 := by simpa [hlen] using he
    match vs,this with
    | [v],_ => exact hne v rfl
   rw [dif_neg hn1]
   refine ⟨us.toArray,rfl,by simpa using h3,fun j p hj => ?_⟩
   simpa [Array.getD_eq_getD_getElem?,List.getD_eq_getElem?_getD] using h4 j p hj
  ·simp at h0
theorem evFn_sound (hC : CfgOK C) {K : FCfg} (hK : AnnsOK K) {inl : Inl} (hinl : InlOK C inl) {f : Nat} {fn : Func} (hfn : C.P.funcs[f]? = some fn) {args : List AV} {cargs : Array Value} {nx : Nat} {k : KC Y}
  (hs : Sim C.RT E H fp w) (hf : Fresh E nx) (ha : All2 (RV C.RT E) args cargs.toList) (hk : evFn C K inl fn args H nx k = some y) :
  Calls C.P f cargs w fun e w' => ∃ u v E' H' fp' nx',e = .returned u /\ k v H' nx' = some y /\ RV C.RT E' v u /\ Sim C.RT E' H' fp' w' /\ Trip C E H fp w nx E' H' fp' w' nx' := by
 unfold evFn at hk
 split at hk
 ·rename_i c hb
  rw [gate_some] at hk
  obtain ⟨hg,hk⟩ := hk
  simp only [Bool.and_eq_true] at hg
  obtain ⟨hd,hle⟩ := hg
  have hle : cargs.size <= fn.ntmps := by
   have h1 := ha.length
   rw [len_eq] at hle
   simp at hle h1
   omega
  have hsz : (cargs ++ Array.replicate (fn.ntmps - cargs.size) undef).size = fn.ntmps := by simp; omega
  have hst : St C.RT E H fp w (entryF args) { tmps := cargs ++ Array.replicate (fn.ntmps - cargs.size) undef,defers := [] } nx fn.ntmps := by
   refine ⟨hs,hf,fun j => ?_,hsz,rfl⟩
   simp only [entryF,nthD_eq]
   cases hj : args[j]? with
   | none =>
    rw [List.getD_eq_getElem?_getD,hj]
    exact R.unk _
   | some x =>
    rw [List.getD_eq_getElem?_getD,hj]
    obtain ⟨z,hz,hr⟩ := ha.get hj
    have hz' : cargs[j]? = some z := by simpa using hz
    have hlt : j < cargs.size := by
     rcases Nat.lt_or_ge j cargs.size with h | h
     ·exact h
     ·rw [Array.getElem?_eq_none h] at hz'; simp at hz'
    have : (cargs ++ Array.replicate (fn.ntmps - cargs.size) undef).getD j undef = z := by
     rw [Array.getD_eq_getD_getElem?,Array.getElem?_append_left hlt,hz']
     rfl
    simp only [Option.getD_some]
    rw [this]
    exact hr
  refine calls_of_wp hfn hb (wp_mono (evCode_sound hK c C hC hinl Y y _ _ _ _ _ E fp w _ _ hk hst hd) fun e a' w' hq => ?_)
  cases e with
  | normal =>
   obtain ⟨F',H',nx',E',fp',g1,g2,g3,g4⟩ := hq
   obtain ⟨v,u,q1,q2,q3⟩ := resA_sound (P:=C.P) (w:=w') g2.sim g2.rf g1
   exact ⟨g2.df,u,q2,u,v,E',H',fp',nx',rfl,q1,q3,g2.sim,g3⟩
  | ret =>
   obtain ⟨F',H',nx',E',fp',g1,g2,g3,g4⟩ := hq
   obtain ⟨v,u,q1,q2,q3⟩ := resA_sound (P:=C.P) (w:=w') g2.sim g2.rf g1
   exact ⟨g2.df,u,q2,u,v,E',H',fp',nx',rfl,q1,q3,g2.sim,g3⟩
  | exit id => obtain ⟨F',H',nx',E',fp',g1,_⟩ := hq; simp at g1
  | goto l => exact hq.elim
  | panic ch => exact hq.elim
  | outgrown => exact hq.elim
 ·simp at hk
def InlsOK (C : Cfg) : Prop := ∀ q ∈ C.inl,AnnsOK q.2 /\ enters C.P q.1 = true
theorem inlTab_sound (hC : CfgOK C) (hI : InlsOK C) : ∀ d,InlOK C (inlTab C d)
 | 0 => fun Y y g args H nx k E fp w cargs hk => by simp [inlTab] at hk
 | d + 1 => fun Y y g args H nx k E fp w cargs hk hs hf ha => by
  simp only [inlTab] at hk
  split at hk
  ·rename_i K fn hfind hfn
   obtain ⟨h1,h2⟩ := hI _ (find_mem hfind)
   refine ⟨h2,?_⟩
   have hC' : CfgOK { C with hi := nx,mv := [] } := ⟨hC.rt,hC.wide,hC.specs,hC.exts,hC.meths,hC.laws⟩
   have ih : InlOK { C with hi := nx,mv := [] } (inlTab C d) := inlTab_sound hC hI d
   refine Calls.mono (evFn_sound hC' h1 ih hfn hs hf ha hk) ?_
   rintro e w' ⟨u,v,E',H',fp',nx',g1,g2,g3,g4,g5⟩
   refine ⟨u,E',H',fp',nx',v,g1,g2,g3,g4,⟨⟨fun id I hI => ?_,g5.M⟩,g5.frm,g5.own,g5.nx,g5.fresh,g5.ext⟩⟩
   refine g5.keep id I ?_ (by simp) hI
   rcases Nat.lt_or_ge id nx with h | h
   ·exact h
   ·rw [hf id h] at hI; simp at hI
  ·simp at hk
def noneIn (l : List Nat) : List Nat -> Bool
 | [] => true
 | t :: r => !mem l t && noneIn l r
theorem noneIn_get {l : List Nat} : ∀ {r : List Nat} {t : Nat},noneIn l r = true -> t ∈ l -> t ∉ r
 | [],t,_,_ => by simp
 | t' :: r,t,h,hm => by
  simp only [noneIn,Bool.and_eq_true,Bool.not_eq_true'] at h
  intro hr
  rcases List.mem_cons.1 hr with rfl | hr
  ·rw [mem_iff.2 hm] at h; simp at h
  ·exact noneIn_get h.2 hm hr
def Sig.spec (s : Sig) {R : Type} (run : Nat -> Leaves -> Option R) (enc : R -> Leaves) : Spec :=
 ⟨s.args,s.n,s.pre,s.post,s.ret,fun N L _ k => obind (run N L) fun r => k (enc r)⟩
theorem noLent_nil {l : List Nat} (h : noLent l = true) : l = [] := by cases l <;> simp [noLent] at h ⊢
theorem appV_eq (xs ys : List View) : appV xs ys = xs ++ ys := by
 induction xs with
 | nil => rfl
 | cons x xs ih => simp [appV,ih]
theorem wholes_get {l : List (Nat × BPat)} : ∀ {n t i : Nat},i < n -> (wholes l t n)[i]? = some (match isDead l (t + i) with | true => .none | false => .whole (t + i))
 | 0,t,i,h => by omega
 | n + 1,t,0,h => by simp [wholes]; rfl
 | n + 1,t,i + 1,h => by
  simp only [wholes,List.getElem?_cons_succ]
  rw [wholes_get (by omega),show t + 1 + i = t + (i + 1) by omega]
theorem isDead_live : ∀ {l : List (Nat × BPat)} {t : Nat},distinct (ids l) = true -> t ∈ idsLive l -> isDead l t = false
 | [],t,_,h => by simp [idsLive] at h
 | (t',p) :: r,t,hd,h => by
  obtain ⟨hn,hd'⟩ := distinct_cons (t:=t') (l:=ids r) hd
  have hsub : t ∈ idsLive r -> t ≠ t' := fun hr he => by
   obtain ⟨p',hp',_⟩ := idsLive_get hr
   exact hn (he ▸ ids_mem.2 ⟨p',hp'⟩)
  by_cases he : t = t'
  ·subst he
   cases p with
   | dead => simp only [idsLive] at h; exact absurd rfl (hsub h)
   | _ => simp [isDead]
  ·have hb : Nat.beq t t' = false := by
    cases hb : Nat.beq t t' with
    | false => rfl
    | true => exact absurd (Nat.eq_of_beq_eq_true hb) he
   have hr : t ∈ idsLive r := by
    cases p with
    | dead => exact h
    | _ => simp only [idsLive,List.mem_cons] at h; exact h.resolve_left he
   have := isDead_live hd' hr
   cases p <;> simp [isDead,hb,this]
theorem sig_end {s : Sig} {R : Type} {dec : Leaves -> R} {enc : R -> Leaves} {run : Nat -> Leaves -> Option R} {L : Leaves} {r : R} {v : AV} {u : Value} {H' : Heap} {nx' : Nat} {E' : Env} {fp' : Fp} {w' : World} (hRT : RTok C.RT)
  (hok : specOk (s.spec run enc) = true) (hh : C.hi = s.n /\ noneIn (idsLive s.post) C.mv = true)
  (henc : ∀ L Lc : Leaves,fAV (enc (dec L)) Lc s.ret = fAV L Lc s.ret /\ s.post.map (fun q => fBlk (enc (dec L)) Lc q.2) = s.post.map (fun q => fBlk L Lc q.2))
  (hs : Sim noRT E (fHeap L L noHeap s.pre) fp w) (g1 : sigK s L dec v H' nx' = some r) (g2 : RV C.RT E' v u) (g3 : Sim C.RT E' H' fp' w') (g4 : Trip C E (fHeap L L noHeap s.pre) fp w s.n E' H' fp' w' nx') :
  ∃ E2 fp2,RV noRT E2 (fAV (enc r) L s.ret) u /\ Sim noRT E2 (fHeap (enc r) L noHeap s.post) fp2 w' /\
   Frm w (OwnAll (fHeap L L noHeap s.pre) fp) w' /\ (∀ x,OwnAll (fHeap (enc r) L noHeap s.post) fp2 x -> x.1 < w.heap.size -> OwnAll (fHeap L L noHeap s.pre) fp x) /\
   (∀ t,t < s.n -> t ∈ idsLive s.post -> E2.info t = E.info t) /\ (∀ ad v,E.M ad = some v -> E2.M ad = some v) /\ MExt E (fHeap L L noHeap s.pre) fp w E2 := by
 unfold specOk at hok
 simp only [Bool.and_eq_true] at hok
 obtain ⟨q1,q2,q3,q4,q5,q6,q7,q8,q9,q10,q11,q12⟩ := hok
 simp only [Sig.spec] at q1 q2 q3 q4 q5 q6 q7 q8 q9 q10 q11 q12
 obtain ⟨hh1,hh2⟩ := hh
 unfold sigK at g1
 obtain ⟨m1,h1,e1,k1⟩ := mAV_sound g1
 obtain ⟨m,h2,e2,k2⟩ := mBlks_sound h1
 rw [gate_some] at h2
 obtain ⟨hg,h2⟩ := h2
 simp only [Bool.and_eq_true] at hg
 obtain ⟨hn,hva,hnl⟩ := hg
 obtain ⟨h2,hparts⟩ := partsIn_some h2
 simp only [Option.some.injEq] at h2
 have hret := k1 m e2
 have hbl := k2 m (.refl m)
 simp only [lcOf] at hret hbl
 have hlent := noLent_nil hnl
 have hla : lentApart m.σ m.lent = true := by rw [hlent]; rfl
 have hsim := Sim.base hRT g3 hbl hva hla hparts
 have hrv := matchV_RV hRT g3 hret g2
 obtain ⟨z1,z2⟩ := henc m.leaves L
 have hLr : fAV (enc r) L s.ret = fAV m.leaves L s.ret := by rw [<- h2]; exact z1
 have hLp : fHeap (enc r) L noHeap s.post = fHeap m.leaves L noHeap s.post := by rw [<- h2]; exact fHeap_congr z2
 refine ⟨baseE E' H' fp' w' m.σ m.lent,baseFp E' fp' m.σ,?_,?_,g4.frm,?_,fun t ht hlv => ?_,fun ad v h => baseE_M (g4.M ad v h),fun ad v h => g4.ext ad v (baseE_none hnl h)⟩
 ·rw [hLr]; exact fAV_RT q4 hrv
 ·rw [hLp]; exact hsim.anyRT q3
 ·rintro x ⟨t,b,hb,hx⟩ hlt
  rw [hLp] at hb
  obtain ⟨v',id,b',_,_,h3,h4⟩ := base_own g3 hbl hparts hb hx
  exact g4.own x ⟨id,b',h3,h4⟩ hlt
 ·have hσ0 : (MS.startFn s.post s.n s.m).σ[t]? = some (.whole t) := by
   simp only [MS.startFn,appV_eq]
   have hw := wholes_get (l:=s.post) (t:=0) ht
   rw [Nat.zero_add,isDead_live q8 hlv] at hw
   rw [List.getElem?_append_left]
   ·exact hw
   ·rcases Nat.lt_or_ge t (wholes s.post 0 s.n).length with h | h
    ·exact h
    ·rw [List.getElem?_eq_none h] at hw; simp at hw
  have hσ := (e1.trans e2).σ t _ hσ0 (by simp)
  rw [baseE_info hσ]
  simp only [viewInfo]
  obtain ⟨p,hp,hpd⟩ := idsLive_get (upTo_mem q11 ht)
  have hb' := fHeap_live (L:=L) (Lc:=L) q12 hp
  obtain ⟨b,hb0⟩ := (fBlk_live (L:=L) (Lc:=L)).1 hpd
  rw [hb0] at hb'
  obtain ⟨I,hI,_⟩ := hs.blk t b hb'
  rw [hI]
  exact g4.keep t I (by rw [hh1]; exact ht) (noneIn_get hh2 hlv) hI
theorem args_RT {RT' : RoTab} {L : Leaves} {ps : List VPat} {vs : List Value} (hp : allVs plainP ps = true) (h : All2 (RV RT E) (fAVs L L ps) vs) : All2 (RV RT' E) (fAVs L L ps) vs := by
 rw [fAVs_eq] at h ⊢
 have : ∀ {ps : List VPat} {vs : List Value},(∀ p ∈ ps,allV plainP p = true) -> All2 (RV RT E) (ps.map (fAV L L)) vs -> All2 (RV RT' E) (ps.map (fAV L L)) vs := by
  intro ps
  induction ps with
  | nil => intro vs _ h; cases h; exact .nil
  | cons p ps ih =>
   intro vs hp h
   cases h with
   | cons h1 h2 => exact .cons (fAV_RT (hp p (by simp)) h1) (ih (fun q hq => hp q (by simp [hq])) h2)
 exact this (fun p h => allVs_get hp h) h
theorem callOK_of_sig {fn : Func} {f : Nat} {s : Sig} {Cf : Nat -> Cfg} {K : Nat -> FCfg} {d : Nat} {R : Type} {dec : Leaves -> R} {enc : R -> Leaves} {run : Nat -> Leaves -> Option R} (hfn : P.funcs[f]? = some fn)
  (hP : ∀ N,(Cf N).P = P) (hC : ∀ N,CfgOK (Cf N)) (hI : ∀ N,InlsOK (Cf N)) (hK : ∀ N,AnnsOK (K N))
  (hrun : ∀ N L r,run N L = some r -> evSig (Cf N) (K N) d fn s L dec = some r) (hok : specOk (s.spec run enc) = true) (hhi : ∀ N,(Cf N).hi = s.n /\ noneIn (idsLive s.post) (Cf N).mv = true)
  (henc : ∀ L Lc : Leaves,fAV (enc (dec L)) Lc s.ret = fAV L Lc s.ret /\ s.post.map (fun q => fBlk (enc (dec L)) Lc q.2) = s.post.map (fun q => fBlk L Lc q.2)) :
  CallOK P f (s.spec run enc) where
 ok := hok
 cps := fun N L Y k => by
  simp only [Sig.spec]
  cases run N L <;> simp [obind]
 calls := fun N L L' E fp w args hr hs ha hf => by
  simp only [Sig.spec,obind_some] at hr
  obtain ⟨r,hr,hL'⟩ := hr
  simp only [Option.some.injEq] at hL'
  subst hL'
  have hev := hrun N L r hr
  have hok' := hok
  unfold specOk at hok'
  simp only [Bool.and_eq_true] at hok'
  have q1 := hok'.1
  have q2 := hok'.2.1
  simp only [Sig.spec] at hs ha hf q1 q2 ⊢
  rw [<- hP N] at hfn ⊢
  unfold evSig at hev
  refine Calls.mono (evFn_sound (hC N) (hK N) (inlTab_sound (hC N) (hI N) d) hfn (hs.anyRT q2) hf (args_RT q1 ha) hev) ?_
  rintro e w' ⟨u,v,E',H',fp',nx',he,g1,g2,g3,g4⟩
  obtain ⟨E2,fp2,z1,z2,z3,z4,z5,z6,z7⟩ := sig_end (hC N).rt hok (hhi N) henc hs g1 g2 g3 g4
  exact ⟨E2,fp2,u,he,z1,z2,z3,z4,z5,z6,z7⟩
theorem callOK_rec {f : Nat} {s : Sig} {R : Type} {enc : R -> Leaves} {run : Nat -> Nat -> Leaves -> Option R} (h0 : ∀ N L,run N 0 L = none) (hok : specOk (s.spec (fun N L => run N 0 L) enc) = true)
  (step : ∀ n,CallOK P f (s.spec (fun N L => run N n L) enc) -> CallOK P f (s.spec (fun N L => run N (n + 1) L) enc)) : ∀ n,CallOK P f (s.spec (fun N L => run N n L) enc)
 | 0 => { ok := hok,cps := fun N L Y k => by simp only [Sig.spec,h0,obind],calls := fun N L L' E fp w args hr => by simp [Sig.spec,h0,obind] at hr }
 | n + 1 => step n (callOK_rec h0 hok step n)
theorem callOK_diag {f : Nat} {s : Sig} {R : Type} {enc : R -> Leaves} {run : Nat -> Nat -> Leaves -> Option R} (h : ∀ n,CallOK P f (s.spec (fun N L => run N n L) enc)) : CallOK P f (s.spec (fun N L => run N N L) enc) where
 ok := (h 0).ok
 cps := fun N L Y k => by
  simp only [Sig.spec]
  cases run N N L <;> simp [obind]
 calls := fun N L => (h N).calls N L
noncomputable def lawE (w : World) : Env := ⟨fun _ => none,fun a => match a.spot with | none => w.cell? a | some _ => none⟩
theorem law_sound (hC : CfgOK C) (hI : InlsOK C) {K : FCfg} (hK : AnnsOK K) {f d : Nat} {fn : Func} (hfn : C.P.funcs[f]? = some fn) {args : List AV} {cargs : Array Value}
  (ha : All2 (RV C.RT (lawE w)) args cargs.toList) (hk : evLaw C K d fn args = some true) :
  Calls C.P f cargs w fun e w' => e = .returned (.bool true) /\ Frm w (fun _ => False) w' := by
 have hs : Sim C.RT (lawE w) noHeap (fun _ _ => False) w := by
  refine ⟨fun id b hb => by simp [noHeap] at hb,fun i j b c x hb => by simp [noHeap] at hb,fun ad v h => ?_⟩
  simp only [lawE] at h
  split at h
  ·rename_i hs
   exact ⟨hs,h,fun i b hb => by simp [noHeap] at hb⟩
  ·simp at h
 refine Calls.mono (evFn_sound hC hK (inlTab_sound hC hI d) hfn hs (fun id _ => rfl) ha hk) ?_
 rintro e w' ⟨u,v,E',H',fp',nx',he,g1,g2,g3,g4⟩
 unfold lawK at g1
 split at g1
 ·simp only [Option.some.injEq] at g1
  subst g1
  have : u = .bool true := R.bool_inv g2
  subst this
  exact ⟨he,g4.frm.mono fun x ⟨id,b,hb,_⟩ => by simp [noHeap] at hb⟩
 ·simp at g1
def AllS (P : Program) : List (FuncId × Spec) -> Prop
 | [] => True
 | q :: r => CallOK P q.1 q.2 /\ AllS P r
theorem allS_mem {P : Program} : ∀ {l : List (FuncId × Spec)},AllS P l -> ∀ q ∈ l,CallOK P q.1 q.2
 | [],_,q,h => by simp at h
 | x :: r,h,q,hq => by
  rcases List.mem_cons.1 hq with rfl | hq
  ·exact h.1
  ·exact allS_mem h.2 q hq
theorem cok0 {C : Cfg} (hw : C.P.follows .mixedOrders = true) (h : AllS C.P C.specs) (he : (C.specs.all fun q => enters C.P q.1) = true) (hr : C.RT = noRT) (h1 : C.exts = []) (h2 : C.meths = []) (h3 : C.laws = []) : CfgOK C where
 rt := fun _ _ _ _ h => by rw [hr] at h; simp [noRT] at h
 wide := hw
 specs := fun q hq => ⟨allS_mem h q hq,List.all_eq_true.1 he q hq⟩
 exts := fun g hg => by rw [h1] at hg; simp at hg
 meths := fun g hg => by rw [h2] at hg; simp at hg
 laws := fun g hg => by rw [h3] at hg; simp at hg
def AllA : List (Nat × Ann) -> Prop
 | [] => True
 | q :: r => AnnOK q.2 /\ AllA r
theorem allA_mem : ∀ {l : List (Nat × Ann)},AllA l -> ∀ q ∈ l,AnnOK q.2
 | [],_,q,h => by simp at h
 | x :: r,h,q,hq => by
  rcases List.mem_cons.1 hq with rfl | hq
  ·exact h.1
  ·exact allA_mem h.2 q hq
theorem aok1 {K : FCfg} (h : AllA K.anns) : AnnsOK K := allA_mem h
theorem iok0 {C : Cfg} (h : C.inl = []) : InlsOK C := fun q hq => by rw [h] at hq; simp at hq
theorem ok0 {fn : Func} {f : Nat} {s : Sig} {Cf : Nat -> Cfg} {K : Nat -> FCfg} {d : Nat} {R : Type} {dec : Leaves -> R} {enc : R -> Leaves} {run : Nat -> Leaves -> Option R} (hC : ∀ N,CfgOK (Cf N)) (hI : ∀ N,InlsOK (Cf N)) (hK : ∀ N,AnnsOK (K N))
  (hF : ∀ N L,evSig (Cf N) (K N) d fn s L dec = run N L) (hfn : P.funcs[f]? = some fn) (hok : specOk (s.spec run enc) = true) (hP : ∀ N,(Cf N).P = P) (hhi : ∀ N,(Cf N).hi = s.n /\ noneIn (idsLive s.post) (Cf N).mv = true)
  (henc : ∀ L Lc : Leaves,fAV (enc (dec L)) Lc s.ret = fAV L Lc s.ret /\ s.post.map (fun q => fBlk (enc (dec L)) Lc q.2) = s.post.map (fun q => fBlk L Lc q.2)) : CallOK P f (s.spec run enc) :=
 callOK_of_sig hfn hP hC hI hK (fun N L r h => (hF N L).trans h) hok hhi henc
theorem lq {α : Sort _} {A B : Nat -> α} (hs : ∀ n,A n = B n -> A (n + 1) = B (n + 1)) (h0 : A 0 = B 0 := by funext; kernel_rfl) : ∀ n,A n = B n
 | 0 => h0
 | n + 1 => hs n (lq hs h0 n)
theorem ok2 {f : Nat} {s : Sig} (Cf : Nat -> Cfg) (K : Nat -> FCfg) (fn : Func) {R : Type} (dec : Leaves -> R) {enc : R -> Leaves} {run : Nat -> Leaves -> Option R} (hs : ∀ N,AllS (Cf N).P (Cf N).specs) (hK : ∀ N,AllA (K N).anns)
  (hF : ∀ N L,evSig (Cf N) (K N) 0 fn s L dec = run N L := by intros; kernel_rfl) (hw : P.follows .mixedOrders = true := by exact wide) (hP : ∀ N,(Cf N).P = P := by exact fun _ => rfl) (he : ∀ N,((Cf N).specs.all fun q => enters (Cf N).P q.1) = true := by intros; kernel_rfl) (hr : ∀ N,(Cf N).RT = noRT := by exact fun _ => rfl) (hm : ∀ N,(Cf N).exts = [] /\ (Cf N).meths = [] /\ (Cf N).laws = [] /\ (Cf N).inl = [] := by exact fun _ => ⟨rfl,rfl,rfl,rfl⟩)
  (hfn : P.funcs[f]? = some fn := by kernel_rfl) (hok : specOk (s.spec run enc) = true := by kernel_rfl) (hhi : ∀ N,(Cf N).hi = s.n /\ noneIn (idsLive s.post) (Cf N).mv = true := by exact fun _ => ⟨rfl,rfl⟩)
  (henc : ∀ L Lc : Leaves,fAV (enc (dec L)) Lc s.ret = fAV L Lc s.ret /\ s.post.map (fun q => fBlk (enc (dec L)) Lc q.2) = s.post.map (fun q => fBlk L Lc q.2) := by exact fun _ _ => ⟨rfl,rfl⟩) : CallOK P f (s.spec run enc) :=
 ok0 (fun N => cok0 (by rw [hP N]; exact hw) (hs N) (he N) (hr N) (hm N).1 (hm N).2.1 (hm N).2.2.1) (fun N => iok0 (hm N).2.2.2) (fun N => aok1 (hK N)) hF hfn hok hP hhi henc
end Go.Eng
/-
 The engine, part fifteen: what a law's arguments read as, and the row's end.
 Conditions: none; nothing is claimed of the program here.
-/
namespace Go.Eng
variable {H : Type} {enc : TypeId × Value -> H} {P : Program} {W : World} {base : Nat} {spare : Nat -> Bool} {held : Bool} {RT : RoTab}
def WfI (k : IntKind) (n : Int) : Prop := (Lit.int k n).wf = true
def WfL (k : IntKind) (l : List Int) : Prop := ∀ n ∈ l,WfI k n
theorem WfI.bounds {k : IntKind} {n : Int} (h : WfI k n) : k.min <= n /\ n <= k.max := by
 simpa [WfI,Lit.wf] using h
theorem lawE_M {w : World} {a : Addr} (h : a.spot = none) : (lawE w).M a = w.cell? a := by simp only [lawE,h]
theorem cell_spot {w : World} {a : Addr} {v : Value} (h : w.cell? a = some v) : a.spot = none := by
 cases hs : a.spot with
 | none => rfl
 | some s =>
  unfold World.cell? at h
  split at h
  ·simp [hs] at h
  ·simp at h
theorem add_none {a : Addr} (h : a.spot = none) (n : Nat) : a.add n = ⟨a.block,a.off + n,none⟩ := by
 obtain ⟨b,o,s⟩ := a
 simp only at h
 subst h
 unfold Addr.add
 split
 ·rename_i h; simp [h]
 ·rfl
theorem law_cell {w : World} {a : Addr} {n : Nat} {v v0 : Value} (h0 : w.cell? (a.add 0) = some v0) (h : w.cell? (a.add n) = some v) : a.spot = none /\ (lawE w).M ⟨a.block,a.off + n,none⟩ = some v := by
 have hs : a.spot = none := cell_spot (by simpa [Addr.add] using h0)
 refine ⟨hs,?_⟩
 rw [lawE_M rfl,<- add_none hs n]
 exact h
theorem rd_ints {t e : TypeId} {k : IntKind} {fuel : Nat} {cs : List Value} {x : DataW H × List MemPlace} (ht : P.underlying t = some (.slice e)) (he : P.underlying e = some (.int k)) (hc : P.cellsOf e = 1)
  (h : DataW.trod enc P W base spare held fuel t cs = some x) : ∃ v xs,cs = [v] /\ R RT (lawE W) (.roi k xs) v /\ WfL k xs /\
   ((x.1 = .nil /\ xs = []) \/ ∃ sp,x.1 = .slice (xs.map fun n => .lit (.int k n)) sp) := by
 rcases ChangeShapes.open_ints ht he hc h with ⟨rfl,rfl⟩ | ⟨a,len,cap,zs,rfl,_,hl,_,hz,rfl,hcell,hw⟩
 ·exact ⟨_,[],rfl,R.roi (xs:=[]) (base:=none) (cap:=0) (Nat.le_refl _) (fun i hi => by simp at hi),fun n hn => by simp at hn,Or.inl ⟨rfl,rfl⟩⟩
 ·have hlen : (zs.take len).length = len := by
   rw [List.length_take,hz]
   split <;> omega
  have hle : len <= zs.length := by rw [hz]; split <;> omega
  refine ⟨_,zs.take len,rfl,?_,fun n hn => hw n (List.mem_of_mem_take hn),Or.inr ⟨_,rfl⟩⟩
  have := R.roi (RT:=RT) (E:=lawE W) (k:=k) (xs:=zs.take len) (base:=some a) (cap:=cap) (by omega) (fun i hi => by
   rw [hlen] at hi
   obtain ⟨h1,h2⟩ := law_cell (hcell 0 (by omega)) (hcell i (by omega))
   refine ⟨a,rfl,h1,?_⟩
   rw [h2]
   simp [List.getD_eq_getElem?_getD,List.getElem?_take_of_lt hi])
  rw [hlen] at this
  exact this
theorem rd_elems {t e : TypeId} {fuel : Nat} {cs : List Value} {x : DataW H × List MemPlace} (ht : P.underlying t = some (.slice e))
  (h : DataW.trod enc P W base spare held fuel t cs = some x) :
  (cs = [.slice none 0 0] /\ x.1 = .nil) \/ ∃ (a : Addr) (len cap : Nat) (u : Nat -> List Value) (D : Nat -> DataW H × List MemPlace) (n : Nat) (sp : List (DataW H)),cs = [.slice (some a) len cap] /\ len <= cap /\ x.1 = .slice ((List.range len).map fun i => (D i).1) sp /\
   ∀ i,i < len -> (u i).length = P.cellsOf e /\ (∀ j,j < P.cellsOf e -> ∃ v,(u i)[j]? = some v /\ a.spot = none /\ (lawE W).M ⟨a.block,a.off + (i * P.cellsOf e + j),none⟩ = some v) /\
    DataW.trod enc P W base spare held n e (u i) = some (D i) := by
 rcases Deep.open_slice ht h with ⟨rfl,rfl⟩ | ⟨a,len,cap,m,n,D,Pl,rfl,_,hl,_,hm,rfl,hx⟩
 ·exact Or.inl ⟨rfl,rfl⟩
 ·right
  have hle : len <= m := by rw [hm]; split <;> omega
  obtain ⟨u,hu⟩ := Deep.choose_lt (α:=List Value) (n:=m) (p:=fun i c => W.cells? base (a.add (i * P.cellsOf e)) (P.cellsOf e) = some c /\ DataW.trod enc P W base spare held n e c = some (D i,Pl i)) hx
  refine ⟨a,len,cap,u,fun i => (D i,Pl i),n,_,rfl,hl,rfl,fun i hi => ?_⟩
  obtain ⟨h1,h2⟩ := hu i (by omega)
  obtain ⟨_,h3,h4⟩ := World.cells?_some h1
  refine ⟨h3,fun j hj => ?_,h2⟩
  have h5 := h4 j hj
  rw [List.getElem?_eq_getElem (by omega)] at h5
  refine ⟨_,List.getElem?_eq_getElem (by omega),?_⟩
  have hs' : a.spot = none := by
   obtain ⟨k1,_⟩ := hu 0 (by omega)
   obtain ⟨_,k3,k4⟩ := World.cells?_some k1
   have k5 := k4 0 (by omega)
   rw [List.getElem?_eq_getElem (by omega)] at k5
   exact cell_spot (by simpa [Addr.add] using k5)
  refine ⟨hs',?_⟩
  rw [add_none hs',add_none rfl] at h5
  rw [lawE_M rfl,<- Nat.add_assoc]
  exact h5
theorem Frm.below {w w' : World} (h : Frm w (fun _ => False) w') : RowKit.Below w.heap.size w w' where
 os := h.os
 tape := h.tape
 output := h.output
 size := h.size
 block := fun k hk => by
  cases hb : w.heap[k]? with
  | none => simp [Array.getElem?_eq_none_iff] at hb; omega
  | some o =>
   cases o with
   | cells c t fz =>
    obtain ⟨c',h1,h2,h3⟩ := h.cells k c t fz hb
    rw [h1]
    have : c' = c := by
     apply Array.ext_getElem?
     intro i
     exact h3 i (fun h => h)
    rw [this]
   | _ => exact h.other k _ hb (by simp)
end Go.Eng
/-
 The engine, part sixteen: what the head of a cut says, in few steps for the kernel.
 Conditions: none; nothing is claimed of the program here.
-/
namespace Go.Eng
def fastW : List Char -> List Char -> List (List Char)
 | [],acc => [acc.reverse]
 | ' ' :: r,acc => acc.reverse :: fastW r []
 | c :: r,acc => fastW r (c :: acc)
theorem fastW_spec : ∀ (l acc : List Char),∃ w ws,wordsSigns l = w :: ws /\ fastW l acc = (acc.reverse ++ w) :: ws
 | [],acc => ⟨[],[],by simp [wordsSigns],by simp [fastW]⟩
 | c :: r,acc => by
  by_cases hc : c = ' '
  ·subst hc
   obtain ⟨w,ws,h1,h2⟩ := fastW_spec r []
   refine ⟨[],w :: ws,by rw [wordsSigns,h1],?_⟩
   rw [fastW,h2]
   simp
  ·obtain ⟨w,ws,h1,h2⟩ := fastW_spec r (c :: acc)
   refine ⟨c :: w,ws,?_,?_⟩
   ·rw [wordsSigns,h1]
    exact fun h => hc h
   ·rw [fastW,h2]
    ·simp
    ·exact fun h => hc h
theorem wordsSigns_eq (l : List Char) : wordsSigns l = fastW l [] := by
 obtain ⟨w,ws,h1,h2⟩ := fastW_spec l []
 rw [h1,h2]
 simp
theorem mayEnter_cut {P : Program} {rest : List (List Char)} (hb : behindMainWord (wordsSigns P.initOrder.toList) = "cut".toList :: rest) (h : stripLifts liftWords ("cut".toList :: rest) = ([], "cut".toList :: rest)) (h1 : P.laysLater = false) (h2 : P.bearsReflect = false) (h3 : P.doorFits [] = true) : P.mayEnter = true := by
  unfold Program.mayEnter
  simp only [hb, h, h1, h2, h3]
  simp
theorem make_of (P : Program) {rest : List (List Char)} (h : behindMainWord (wordsSigns P.initOrder.toList) = "cut".toList :: rest) : P.make = some .cut := by
 unfold Program.make
 rw [h]
 simp
theorem liftsFinal_of (P : Program) {rest : List (List Char)} (h : behindMainWord (wordsSigns P.initOrder.toList) = "cut".toList :: rest) (h2 : stripLifts liftWords ("cut".toList :: rest) = ([],"cut".toList :: rest)) : P.liftsFinal = false := by
 unfold Program.liftsFinal Program.headLifts
 simp only [h,h2]
 simp
theorem facts_mk {P : Program} {f : FuncId} {fn : Func} {s : ChangeSpec} {c : OpenClaim} (k1 : c.wf (OpenSpec.ofChange s) = true) (k2 : laidOutB P = true) (k3 : mapsRowed P = true)
  (k4 : fn.params.all (P.readableRec ·) = true) (k5 : namedTie P c.named s.vars = true) (k6 : (c.stops == []) = true) (k7 : (P.stops == []) = true) (k8 : (c.knobs == []) = true) (k9 : (P.stopKnobs == []) = true)
  (k10 : (c.inPlace == P.inPlace f) = true) (k11 : (c.unfollowed == P.unfollowed f) = true) (k12 : (c.recurses == P.recurses f) = true) (k13 : (c.named == P.varsNamed f) = true)
  (k14 : (c.maps == (fn.params.toList ++ s.plain.varTypes P).any (P.mapsRec ·)) = true) (k15 : (c.ifaces == (fn.params.toList ++ s.plain.varTypes P).any (P.ifacesRec ·)) = true) (k16 : (c.mapsOut == P.mapsAmong fn.resultTypes.toList) = true)
  (k17 : (c.loops == (fn.params.toList ++ s.plain.varTypes P).any (P.loopsFrom ·)) = true) (k17b : (c.wideKeys == (fn.params.toList ++ s.plain.varTypes P ++ fn.resultTypes.toList).any (P.wideKeysFrom ·)) = true)
  (k18 : s.vars.all (P.varReadable ·) = true) (k19 : fn.resultTypes.all (fun t => P.readableRec t && decide (t < P.types.size)) = true) (k20 : (c.ifacesOut == fn.resultTypes.toList.any (P.ifacesRec ·)) = true) (k21 : (c.loopsOut == fn.resultTypes.toList.any (P.loopsFrom ·)) = true)
  (k22 : (c.plainKeys == P.plainKeys) = true) (k23 : c.shortTexts.isNone = true) (k23b : P.stopsHeard = true) (k24 : P.mayEnter = true) (k24b : (c.lifted == P.liftsFinal) = true) (k24c : (P.make == some c.make) = true)
  (k25 : (c.kinds == (if c.domain.isEmpty then [] else fn.params.toList.map fun t => match P.underlying t with | some (.int k) => some k | _ => none)) = true) (k26 : (c.pinned == c.pinnedBy) = true)
  (k27 : (c.veiled == (fn.params.toList ++ s.plain.varTypes P ++ fn.resultTypes.toList).any (P.veiledRec ·)) = true) (k28 : c.veiledFits P fn.params.toList (fn.params.toList ++ s.plain.varTypes P ++ fn.resultTypes.toList) = true) :
  joinedFacts P f fn s c = true := by
 simp only [joinedFacts,Bool.and_eq_true]
 exact ⟨⟨⟨⟨⟨⟨⟨⟨⟨⟨⟨⟨⟨⟨⟨⟨⟨⟨⟨⟨⟨⟨⟨⟨⟨⟨⟨⟨⟨⟨⟨k1,k2⟩,k3⟩,k4⟩,k5⟩,k6⟩,k7⟩,k8⟩,k9⟩,k10⟩,k11⟩,k12⟩,k13⟩,k14⟩,k15⟩,k16⟩,k17⟩,k17b⟩,k18⟩,k19⟩,k20⟩,k21⟩,k22⟩,k23⟩,k23b⟩,k24⟩,k24b⟩,k24c⟩,k25⟩,k26⟩,k27⟩,k28⟩
end Go.Eng
/-
 The engine, part sixteen: structs of two whole numbers among a law's arguments.
 Conditions: none; nothing is claimed of the program here.
-/
namespace Go.Eng
open Go.ChangeShapes Go.Joins Go.WideShapes Go.RowKit Go.Deep Go.WideElems
variable {H : Type} {enc : TypeId × Value -> H} {P : Program} {w : World} {base : Nat} {spare : Nat -> Bool} {held : Bool} {RT : RoTab} {E : Env}
end Go.Eng
/-
 The engine: how long a list of numbers among a law's arguments is at most (the claims' own reach).
 Conditions: none; nothing is claimed of the program here.
-/
namespace Go.Eng
open Go.ChangeShapes Go.WideShapes Go.ChangeAt Go.RowKit
variable {H : Type} {P : Program}
end Go.Eng
/-
 The engine, part seventeen: slices of structs among a law's arguments, and structs of slices.
 Conditions: none; nothing is claimed of the program here.
-/
namespace Go.Eng
open Go.ChangeShapes Go.Joins Go.WideShapes Go.RowKit Go.Deep Go.WideElems
variable {H : Type} {enc : TypeId × Value -> H} {P : Program} {W : World} {base : Nat} {spare : Nat -> Bool} {held : Bool} {RT : RoTab} {E : Env}
theorem rd_recs {t e : TypeId} {T : RecT} {D : DataW H -> List Int -> Prop} {Wf : List Int -> Prop} {fuel : Nat} {cs : List Value} {x : DataW H × List MemPlace}
  (ht : P.underlying t = some (.slice e)) (hc : P.cellsOf e = recW T)
  (hel : ∀ n cs x,DataW.trod enc P W base spare held n e cs = some x -> ∃ r,(∀ (j : Nat) (a : Atom),(recA T r)[j]? = some a -> ∃ v : Value,cs[j]? = some v /\ ∀ RT,R RT (lawE W) a v) /\ Wf r /\ D x.1 r)
  (h : DataW.trod enc P W base spare held fuel t cs = some x) :
  ∃ v xss,cs = [v] /\ (∀ RT,R RT (lawE W) (.rro T xss) v) /\ (∀ r ∈ xss,Wf r) /\ ((x.1 = .nil /\ xss = []) \/ ∃ ds sp,x.1 = .slice ds sp /\ ds.length = xss.length /\ ∀ r ∈ xss,∃ d ∈ ds,D d r) := by
 rcases rd_elems ht h with ⟨rfl,hx⟩ | ⟨a,len,cap,u,DD,n,sp,rfl,hl,hx,hu⟩
 ·exact ⟨_,[],rfl,fun RT => R.rro (xss:=[]) (base:=none) (cap:=0) (fun _ _ => undef) (Nat.le_refl _) (fun i j hi => by simp at hi) (fun i j x hi => by simp at hi),fun r hr => by simp at hr,Or.inl ⟨hx,rfl⟩⟩
 ·obtain ⟨A,hA⟩ := Deep.choose_lt (α:=List Int) (n:=len) (p:=fun i r => (∀ (j : Nat) (a : Atom),(recA T r)[j]? = some a -> ∃ v : Value,(u i)[j]? = some v /\ ∀ RT,R RT (lawE W) a v) /\ Wf r /\ D (DD i).1 r) (fun i hi => hel n (u i) (DD i) (hu i hi).2.2)
  have hlen : ((List.range len).map A).length = len := by simp
  have hget : ∀ i,i < len -> ((List.range len).map A).getD i [] = A i := fun i hi => by simp [List.getD_eq_getElem?_getD,hi]
  refine ⟨_,(List.range len).map A,rfl,fun RT => ?_,fun r hr => ?_,Or.inr ⟨_,_,hx,by simp,fun r hr => ?_⟩⟩
  ·have := R.rro (RT:=RT) (E:=lawE W) (T:=T) (xss:=(List.range len).map A) (base:=some a) (cap:=cap) (fun i j => (u i).getD j undef) (by rw [hlen]; exact hl) (fun i j hi hj => by
    rw [hlen] at hi
    obtain ⟨v,h1,h2,h3⟩ := (hu i hi).2.1 j (by rw [hc]; exact hj)
    refine ⟨a,rfl,h2,?_⟩
    rw [hc] at h3
    rw [h3,List.getD_eq_getElem?_getD,h1]
    rfl) (fun i j x hi hx => by
    rw [hlen] at hi
    rw [hget i hi] at hx
    obtain ⟨v,h1,h2⟩ := (hA i hi).1 j x hx
    rw [List.getD_eq_getElem?_getD,h1]
    exact h2 RT)
   rw [hlen] at this
   exact this
  ·obtain ⟨i,hi,rfl⟩ := List.mem_map.1 hr
   exact (hA i (by simpa using hi)).2.1
  ·obtain ⟨i,hi,rfl⟩ := List.mem_map.1 hr
   exact ⟨(DD i).1,List.mem_map.2 ⟨i,hi,rfl⟩,(hA i (by simpa using hi)).2.2⟩
theorem el_ints2 {e : TypeId} {f0 f1 : Field} {k0 k1 : IntKind} (hs : P.underlying e = some (.struct #[f0,f1])) (hC : P.cellsOf e = 2) (o0 : f0.offset = 0) (o1 : f1.offset = 1) (c0 : P.cellsOf f0.type = 1) (c1 : P.cellsOf f1.type = 1)
  (h0 : P.underlying f0.type = some (.int k0)) (h1 : P.underlying f1.type = some (.int k1)) (n : Nat) (cs : List Value) (x : DataW H × List MemPlace) (h : DataW.trod enc P W base spare held n e cs = some x) :
  ∃ r,(∀ (j : Nat) (a : Atom),(recA ⟨[k0,k1],none,false⟩ r)[j]? = some a -> ∃ v : Value,cs[j]? = some v /\ ∀ RT,R RT (lawE W) a v) /\ (∃ a b,r = [a,b] /\ WfI k0 a /\ WfI k1 b) /\ True := by
 obtain ⟨y0,y1,m,rfl,hl,t0,t1⟩ := trod_struct2 hs h
 rw [hC] at hl
 obtain ⟨v0,v1,rfl⟩ : ∃ v0 v1,cs = [v0,v1] := by
  match cs,hl with
  | [v0,v1],_ => exact ⟨_,_,rfl⟩
 rw [o0,c0] at t0
 rw [o1,c1] at t1
 obtain ⟨n0,e0,rfl,w0⟩ := DataW.trod_int h0 t0
 obtain ⟨n1,e1,rfl,w1⟩ := DataW.trod_int h1 t1
 simp at e0 e1
 subst e0 e1
 refine ⟨[n0,n1],fun j a ha => ?_,⟨n0,n1,rfl,w0,w1⟩,trivial⟩
 match j with
 | 0 => simp [recA,recAs] at ha; subst ha; exact ⟨_,rfl,fun RT => R.int _ _⟩
 | 1 => simp [recA,recAs] at ha; subst ha; exact ⟨_,rfl,fun RT => R.int _ _⟩
 | j + 2 => simp [recA,recAs] at ha
def noRT3 : RoTab := fun _ => none
theorem lits_inj3 {k : IntKind} : ∀ a b : List Int,a.map (fun n => (DataW.lit (Lit.int k n) : DataW H)) = b.map (fun n => DataW.lit (Lit.int k n)) -> b = a
 | [],[],_ => rfl
 | [],y :: ys,h => by simp at h
 | z :: zs,[],h => by simp at h
 | z :: zs,y :: ys,h => by
  simp only [List.map_cons,List.cons.injEq,DataW.lit.injEq,Lit.int.injEq,true_and] at h
  rw [h.1,lits_inj3 zs ys h.2]
theorem rd_ints3 {t e : TypeId} {k : IntKind} {fuel : Nat} {cs : List Value} {x : DataW H × List MemPlace} (ht : P.underlying t = some (.slice e)) (he : P.underlying e = some (.int k)) (hc : P.cellsOf e = 1)
  (h : DataW.trod enc P W base spare held fuel t cs = some x) : ∃ v xs,cs = [v] /\ (∀ RT,R RT (lawE W) (.roi k xs) v) /\ WfL k xs /\
   ((x.1 = .nil /\ xs = []) \/ ∃ sp,x.1 = .slice (xs.map fun n => .lit (.int k n)) sp) := by
 obtain ⟨vt,t,e0,hr,hw,hd⟩ := rd_ints (RT:=noRT3) ht he hc h
 refine ⟨vt,t,e0,fun RT => ?_,hw,hd⟩
 obtain ⟨vt',t',e',hr',hw',hd'⟩ := rd_ints (RT:=RT) ht he hc h
 have ev : vt' = vt := by
  rw [e0] at e'
  simpa using e'.symm
 subst ev
 have : t' = t := by
  rcases hd with ⟨g1,g2⟩ | ⟨sp,g1⟩ <;> rcases hd' with ⟨k1,k2⟩ | ⟨sp',k1⟩
  ·rw [g2,k2]
  ·rw [g1] at k1; simp at k1
  ·rw [g1] at k1; simp at k1
  ·rw [g1] at k1
   simp only [DataW.slice.injEq] at k1
   exact lits_inj3 _ _ k1.1
 rw [this] at hr'
 exact hr'
end Go.Eng
