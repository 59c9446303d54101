/-
 The engine, part four: memory that is made and written.
 Conditions: none; nothing is claimed of the program here.
-/
import Derived.Test.YtghbobmkkbdhpaaGreatEngEvalToEngRead
import Derived.Orders
import Derived.Tactics
set_option linter.unusedVariables false
set_option linter.unusedSimpArgs false
namespace Go.Eng
variable {RT : RoTab} {E : Env} {F : Fr} {a : Act} {H : Heap} {fp : Fp} {w : World} {P : Program} {Y : Type} {y : Y}
theorem BlkOK.mono {E' : Env} (h : E.Le E') {b : Blk} {I : Info} {f : Nat × Nat -> Prop} (ok : BlkOK RT E b I f w) : BlkOK RT E' b I f w where
 own := ok.own
 cap := ok.cap
 live := ok.live
 kind := by
  have hk := ok.kind
  cases b with
  | cells wd cs => exact ⟨hk.1,hk.2.1,hk.2.2.1,fun j x hj => let ⟨v,hv,hr⟩ := hk.2.2.2 j x hj; ⟨v,hv,hr.mono h⟩⟩
  | ints g k xs => exact hk
  | recs g T xss => exact ⟨hk.1,hk.2.1,hk.2.2.1,fun i j x hi hj => let ⟨v,hv,hr⟩ := hk.2.2.2 i j x hi hj; ⟨v,hv,hr.mono h⟩⟩
  | hole kd xss hi b => exact ⟨hk.1,hk.2.1,fun i hi => let ⟨v,hv,hr⟩ := hk.2.2 i hi; ⟨v,hv,hr.mono h⟩⟩
theorem BlkOK.frm {w' : World} {O : Nat × Nat -> Prop} (h : Frm w O w') {b : Blk} {I : Info} {f : Nat × Nat -> Prop} (hO : ∀ x,f x -> ¬ O x)
  (ok : BlkOK RT E b I f w) : BlkOK RT E b I f w' where
 own := ok.own
 cap := ok.cap
 live := fun x hx => by
  obtain ⟨v,hv,hf⟩ := ok.live x hx
  exact ⟨v,h.cell hv (hO x hx),by rw [h.frozen (World.block_lt_of_cell? _ _ hv)]; exact hf⟩
 kind := by
  have hk := ok.kind
  cases b with
  | cells wd cs =>
   refine ⟨hk.1,hk.2.1,hk.2.2.1,fun j x hj => ?_⟩
   obtain ⟨v,hv,hr⟩ := hk.2.2.2 j x hj
   refine ⟨v,h.cell hv (hO _ ((ok.own _).2 ⟨rfl,by simp,?_⟩)),hr⟩
   have hlt : j < cs.length := by
    rcases Nat.lt_or_ge j cs.length with h' | h'
    ·exact h'
    ·rw [List.getElem?_eq_none h'] at hj; simp at hj
   simp only [hk.2.2.1,hk.1,Bool.false_eq_true,if_false]
   have := hk.2.1
   omega
  | ints g k xs =>
   refine ⟨hk.1,hk.2.1,hk.2.2.1,fun j hj => h.cell (hk.2.2.2 j hj) (hO _ ((ok.own _).2 ⟨rfl,by simp,?_⟩))⟩
   have h1 := hk.1
   have h2 := hk.2.1
   have h3 := ok.cap
   simp only [h1]
   split <;> omega
  | recs g T xss =>
   refine ⟨hk.1,hk.2.1,hk.2.2.1,fun i j x hi hj => ?_⟩
   obtain ⟨v,hv,hr⟩ := hk.2.2.2 i j x hi hj
   refine ⟨v,h.cell hv (hO _ ((ok.own _).2 ⟨rfl,by simp,?_⟩)),hr⟩
   have hlt : j < I.w := by
    rw [hk.1,<- recA_len T (xss.getD i [])]
    rcases Nat.lt_or_ge j (recA T (xss.getD i [])).length with h' | h'
    ·exact h'
    ·rw [List.getElem?_eq_none h'] at hj; simp at hj
   have hn := ok.cap
   have hn2 := hk.2.1
   have := cell_in (n:=if I.grow = true then I.cap else I.n) (show i < _ by split <;> omega) hlt
   simp only
   omega
  | hole kd xss hi b =>
   refine ⟨hk.1,hk.2.1,fun i hi' => ?_⟩
   obtain ⟨v,hv,hr⟩ := hk.2.2 i hi'
   refine ⟨v,h.cell hv (hO _ ((ok.own _).2 ⟨rfl,by simp,?_⟩)),hr⟩
   have h1 := hk.1
   have h2 := hk.2.1
   have h3 := ok.cap
   simp only [h1]
   split <;> omega
theorem Sim.cell_lt (hs : Sim RT E H fp w) {id : Nat} {b : Blk} {x : Nat × Nat} (hb : H id = some b) (hx : fp id x) : x.1 < w.heap.size := by
 obtain ⟨I,_,ok⟩ := hs.blk _ _ hb
 obtain ⟨v,hv,_⟩ := ok.live x hx
 exact World.block_lt_of_cell? _ _ hv
theorem Sim.frm {w' : World} {O : Nat × Nat -> Prop} (hs : Sim RT E H fp w) (h : Frm w O w') (hO : ∀ x,OwnAll H fp x -> ¬ O x)
  (hM : ∀ a v,E.M a = some v -> ¬ O (a.block,a.off)) : Sim RT E H fp w' where
 blk := fun id b hb => let ⟨I,hI,ok⟩ := hs.blk id b hb; ⟨I,hI,ok.frm h fun x hx => hO x ⟨id,b,hb,hx⟩⟩
 disj := hs.disj
 ro := fun a v ha => let ⟨h1,h2,h3⟩ := hs.ro a v ha; ⟨h1,h.cell h2 (hM a v ha),h3⟩
theorem Frm.alloc (w : World) (o : Obj) (O : Nat × Nat -> Prop) : Frm w O (w.alloc o) where
 os := rfl
 tape := rfl
 output := rfl
 size := by simp
 cells := fun k c t fz h => ⟨c,by rw [RowKit.Below.heap_alloc _ _ _ (heap_lt h)]; exact h,rfl,fun _ _ => rfl⟩
 other := fun k o' h _ => by rw [RowKit.Below.heap_alloc _ _ _ (heap_lt h)]; exact h
theorem Frm.drew (w : World) (O : Nat × Nat -> Prop) : Frm w O w.drew :=
 ⟨rfl,rfl,rfl,Nat.le_refl _,fun _ c _ _ h => ⟨c,h,rfl,fun _ _ => rfl⟩,fun _ _ h _ => h⟩
def putI (E : Env) (id : Nat) (I : Info) : Env := { E with info := fun j => if j = id then some I else E.info j }
def putFp (fp : Fp) (id : Nat) (f : Nat × Nat -> Prop) : Fp := fun j => if j = id then f else fp j
theorem putI_le {id : Nat} {I : Info} (h : E.info id = none) : E.Le (putI E id I) := by
 refine ⟨fun j J hj => ?_,fun _ _ h => h⟩
 by_cases hji : j = id
 ·subst hji; rw [h] at hj; simp at hj
 ·simp [putI,hji,hj]
theorem fresh_heap {nx : Nat} (hs : Sim RT E H fp w) (hf : Fresh E nx) {id : Nat} (h : nx <= id) : H id = none := by
 cases hb : H id with
 | none => rfl
 | some b => obtain ⟨I,hI,_⟩ := hs.blk _ _ hb; rw [hf id h] at hI; simp at hI
theorem Sim.sub {H' : Heap} (hs : Sim RT E H fp w) (h : ∀ id b,H' id = some b -> H id = some b) : Sim RT E H' fp w where
 blk := fun id b hb => hs.blk id b (h id b hb)
 disj := fun i j b c x hb hc => hs.disj i j b c x (h i b hb) (h j c hc)
 ro := fun a v ha => let ⟨h1,h2,h3⟩ := hs.ro a v ha; ⟨h1,h2,fun i b hb => h3 i b (h i b hb)⟩
theorem kill_sub {id : Nat} : ∀ id' b,putH H id none id' = some b -> H id' = some b := by
 intro id' b h
 rw [putH_eq] at h
 split at h
 ·simp at h
 ·exact h
theorem Sim.add {nx : Nat} {b : Blk} {I : Info} {w' : World} {O : Nat × Nat -> Prop} (hs : Sim RT E H fp w) (hf0 : E.info nx = none) (h : Frm w O w')
  (hO : ∀ x,OwnAll H fp x -> ¬ O x) (hM : ∀ a v,E.M a = some v -> ¬ O (a.block,a.off)) (ok : BlkOK RT (putI E nx I) b I (Own I) w')
  (hd : ∀ x,Own I x -> (∀ id b,H id = some b -> ¬ fp id x) /\ ∀ a v,E.M a = some v -> (a.block,a.off) ≠ x) :
  Sim RT (putI E nx I) (putH H nx (some b)) (putFp fp nx (Own I)) w' := by
 have hle : E.Le (putI E nx I) := putI_le hf0
 have h2 := hs.frm h hO hM
 refine ⟨fun id b' hb => ?_,fun i j b1 b2 x h1 h3 hij hx hy => ?_,fun a v ha => ?_⟩
 ·rw [putH_eq] at hb
  split at hb
  ·rename_i hid
   subst hid
   simp only [Option.some.injEq] at hb
   subst hb
   exact ⟨I,by simp [putI],by simpa [putFp] using ok⟩
  ·rename_i hid
   obtain ⟨J,hJ,ok'⟩ := h2.blk id b' hb
   exact ⟨J,hle.info _ _ hJ,by simpa [putFp,hid] using ok'.mono hle⟩
 ·rw [putH_eq] at h1 h3
  simp only [putFp] at hx hy
  split at h1
  ·rename_i hi
   subst hi
   rw [if_neg (Ne.symm hij)] at h3
   rw [if_pos rfl] at hx
   rw [if_neg (Ne.symm hij)] at hy
   exact (hd x hx).1 j b2 h3 hy
  ·rename_i hi
   rw [if_neg hi] at hx
   split at h3
   ·rename_i hj
    subst hj
    rw [if_pos rfl] at hy
    exact (hd x hy).1 i b1 h1 hx
   ·rename_i hj
    rw [if_neg hj] at hy
    exact hs.disj i j b1 b2 x h1 h3 hij hx hy
 ·obtain ⟨h1,h3,h4⟩ := h2.ro a v ha
  refine ⟨h1,h3,fun i b' hb hx => ?_⟩
  rw [putH_eq] at hb
  simp only [putFp] at hx
  split at hb
  ·rename_i hi
   rw [if_pos hi] at hx
   exact (hd _ hx).2 a v ha rfl
  ·rename_i hi
   rw [if_neg hi] at hx
   exact h4 i b' hb hx
theorem Step.add {nx : Nat} {b : Blk} {I : Info} {w' : World} {H0 : Heap} (hf : Fresh E nx) (hsub : ∀ id b,H id = some b -> H0 id = some b)
  (h : Frm w (OwnAll H0 fp) w') (ho : ∀ x,Own I x -> x.1 < w.heap.size -> OwnAll H0 fp x) :
  Step E H0 fp w nx (putI E nx I) (putH H nx (some b)) (putFp fp nx (Own I)) w' (nx + 1) where
 le := putI_le (hf nx (Nat.le_refl _))
 frm := h
 own := fun x hx hlt => by
  obtain ⟨id,b',hb,hfx⟩ := hx
  rw [putH_eq] at hb
  simp only [putFp] at hfx
  split at hb
  ·rename_i hi
   rw [if_pos hi] at hfx
   exact ho x hfx hlt
  ·rename_i hi
   rw [if_neg hi] at hfx
   exact ⟨id,b',hsub _ _ hb,hfx⟩
 nx := by omega
 fresh := fun id hid => by
  simp only [putI]
  rw [if_neg (by omega)]
  exact hf id (by omega)
 ext := fun _ _ h => Or.inl h
theorem cells_alloc (w : World) (c : Array Value) (t : TypeId) (j : Nat) : (w.alloc (.cells c t)).cell? ⟨w.heap.size,j,none⟩ = c[j]? := by simp
theorem frozen_alloc (w : World) (c : Array Value) (t : TypeId) (j : Nat) : (w.alloc (.cells c t)).frozen? ⟨w.heap.size,j,none⟩ = false := by simp
theorem new_apart {x : Nat × Nat} (hs : Sim RT E H fp w) (hx : x.1 = w.heap.size) :
  (∀ id b,H id = some b -> ¬ fp id x) /\ ∀ a v,E.M a = some v -> (a.block,a.off) ≠ x := by
 refine ⟨fun id b hb hf => ?_,fun a v ha he => ?_⟩
 ·have := hs.cell_lt hb hf; omega
 ·have := World.block_lt_of_cell? _ _ (hs.ro a v ha).2.1
  have : a.block = x.1 := by rw [<- he]
  omega
theorem newCells {nx wd n : Nat} {cs : List Atom} {vs : Array Value} {e : TypeId} (hs : Sim RT E H fp w) (hf : Fresh E nx) (hc : RCs RT E cs vs) (hn : n * wd = cs.length) :
  Sim RT (putI E nx ⟨w.heap.size,0,n,n,wd,false⟩) (putH H nx (some (.cells wd cs))) (putFp fp nx (Own ⟨w.heap.size,0,n,n,wd,false⟩)) (w.alloc (.cells vs e)) /\
  Step E H fp w nx (putI E nx ⟨w.heap.size,0,n,n,wd,false⟩) (putH H nx (some (.cells wd cs))) (putFp fp nx (Own ⟨w.heap.size,0,n,n,wd,false⟩)) (w.alloc (.cells vs e)) (nx + 1) := by
 have hle : E.Le (putI E nx ⟨w.heap.size,0,n,n,wd,false⟩) := putI_le (hf nx (Nat.le_refl _))
 have hsz := hc.1
 refine ⟨Sim.add hs (hf nx (Nat.le_refl _)) (Frm.alloc w _ (fun _ => False)) (fun _ _ h => h) (fun _ _ _ h => h) ⟨fun _ => Iff.rfl,Nat.le_refl _,fun x hx => ?_,rfl,hn,rfl,fun j x hj => ?_⟩
  (fun x hx => new_apart hs hx.1),Step.add hf (fun _ _ h => h) (Frm.alloc w _ _) (fun x hx hlt => ?_)⟩
 ·obtain ⟨h1,h2,h3⟩ := hx
  simp only [Bool.false_eq_true,if_false] at h3
  rw [h1,cells_alloc,frozen_alloc]
  exact ⟨vs[x.2]'(by omega),by simp,rfl⟩
 ·have hlt : j < cs.length := by
   rcases Nat.lt_or_ge j cs.length with h' | h'
   ·exact h'
   ·rw [List.getElem?_eq_none h'] at hj; simp at hj
  refine ⟨vs.getD j undef,?_,(hc.2 j x hj).mono hle⟩
  rw [Nat.zero_add,cells_alloc]
  simp [Array.getD,show j < vs.size by omega]
 ·have := hx.1
  simp only at this
  omega
theorem newInts {nx cap : Nat} {k : IntKind} {xs : List Int} {vs : Array Value} {e : TypeId} (hs : Sim RT E H fp w) (hf : Fresh E nx) (hcap : vs.size = cap) (hle' : xs.length <= cap)
  (hc : ∀ j,j < xs.length -> vs[j]? = some (.int k (xs.getD j 0))) :
  Sim RT (putI E nx ⟨w.heap.size,0,xs.length,cap,1,true⟩) (putH H nx (some (.ints true k xs))) (putFp fp nx (Own ⟨w.heap.size,0,xs.length,cap,1,true⟩)) (w.alloc (.cells vs e)) /\
  Step E H fp w nx (putI E nx ⟨w.heap.size,0,xs.length,cap,1,true⟩) (putH H nx (some (.ints true k xs))) (putFp fp nx (Own ⟨w.heap.size,0,xs.length,cap,1,true⟩)) (w.alloc (.cells vs e)) (nx + 1) := by
 refine ⟨Sim.add hs (hf nx (Nat.le_refl _)) (Frm.alloc w _ (fun _ => False)) (fun _ _ h => h) (fun _ _ _ h => h) ⟨fun _ => Iff.rfl,hle',fun x hx => ?_,rfl,rfl,fun _ => rfl,fun j hj => ?_⟩
  (fun x hx => new_apart hs hx.1),Step.add hf (fun _ _ h => h) (Frm.alloc w _ _) (fun x hx hlt => ?_)⟩
 ·obtain ⟨h1,h2,h3⟩ := hx
  simp only [if_true] at h3
  rw [h1,cells_alloc,frozen_alloc]
  exact ⟨vs[x.2]'(by omega),by simp,rfl⟩
 ·rw [Nat.zero_add,cells_alloc]
  exact hc j hj
 ·have := hx.1
  simp only at this
  omega
theorem newRows {nx n cap : Nat} {k : IntKind} {vs : Array Value} {e : TypeId} (hs : Sim RT E H fp w) (hf : Fresh E nx) (hcap : vs.size = cap) (hle' : n <= cap)
  (hc : ∀ j,j < n -> vs[j]? = some (.slice none 0 0)) :
  Sim RT (putI E nx ⟨w.heap.size,0,n,cap,1,true⟩) (putH H nx (some (.recs false ⟨[],some k,false⟩ (List.replicate n [])))) (putFp fp nx (Own ⟨w.heap.size,0,n,cap,1,true⟩)) (w.alloc (.cells vs e)) /\
  Step E H fp w nx (putI E nx ⟨w.heap.size,0,n,cap,1,true⟩) (putH H nx (some (.recs false ⟨[],some k,false⟩ (List.replicate n [])))) (putFp fp nx (Own ⟨w.heap.size,0,n,cap,1,true⟩)) (w.alloc (.cells vs e)) (nx + 1) := by
 refine ⟨Sim.add hs (hf nx (Nat.le_refl _)) (Frm.alloc w _ (fun _ => False)) (fun _ _ h => h) (fun _ _ _ h => h) ⟨fun _ => Iff.rfl,hle',fun x hx => ?_,rfl,by simp,fun h => by simp at h,fun i j x hi hj => ?_⟩
  (fun x hx => new_apart hs hx.1),Step.add hf (fun _ _ h => h) (Frm.alloc w _ _) (fun x hx hlt => ?_)⟩
 ·obtain ⟨h1,h2,h3⟩ := hx
  simp only [if_true] at h3
  rw [h1,cells_alloc,frozen_alloc]
  exact ⟨vs[x.2]'(by omega),by simp,rfl⟩
 ·simp only [List.length_replicate] at hi
  have hr : (List.replicate n ([] : List Int)).getD i [] = [] := by simp [List.getD_eq_getElem?_getD,hi]
  rw [hr] at hj
  cases j with
  | zero =>
   simp only [recA,recAs,List.getElem?_cons_zero,Option.some.injEq] at hj
   subst hj
   refine ⟨_,?_,R.roi (xs:=[]) (cap:=0) (base:=none) (Nat.le_refl _) (fun i hi => by simp at hi)⟩
   simp only [Nat.mul_one,Nat.zero_add,Nat.add_zero]
   rw [cells_alloc,hc i hi]
   rfl
  | succ j => simp [recA,recAs] at hj
 ·have := hx.1
  simp only at this
  omega
theorem knownA_cell {x : Atom} {v : Value} (h : R RT E x v) (hk : knownA x = true) : v.oneCell' = true := by
 cases h <;> first | rfl | simp [knownA] at hk
theorem knownAs_get : ∀ {l : List Atom} {j : Nat} {x : Atom},knownAs l = true -> l[j]? = some x -> knownA x = true
 | [],j,x,_,h => by simp at h
 | a :: r,0,x,h,hj => by simp [knownAs] at h; simp at hj; subst hj; exact h.1
 | a :: r,j + 1,x,h,hj => by simp [knownAs] at h; simp at hj; exact knownAs_get h.2 hj
theorem solid_cells {x : AV} (h : solid x = true) : knownAs (cellsA x) = true := by
 cases x with
 | «at» a => simpa [cellsA,knownAs,solid] using h
 | agg cs => exact h
 | tup ps => simp [solid] at h
 | arr k xs => simp [solid] at h
theorem Frm.setCell {b o : Nat} {u v : Value} (h : w.cell? ⟨b,o,none⟩ = some u) : Frm w (fun x => x = (b,o)) (w.setCell ⟨b,o,none⟩ v) where
 os := rfl
 tape := rfl
 output := rfl
 size := by simp
 cells := fun k c t fz hc => by
  by_cases hk : k = b
  ·subst hk
   refine ⟨c.setIfInBounds o v,?_,by simp,fun o' ho' => ?_⟩
   ·simp [World.setCell,Array.getElem?_modify,hc]
   ·have : o ≠ o' := fun he => ho' (by rw [he])
    rw [Array.getElem?_setIfInBounds_ne this]
  ·exact ⟨c,by rw [RowKit.Below.heap_setCell _ _ _ _ hk]; exact hc,rfl,fun _ _ => rfl⟩
 other := fun k o' hc hn => by
  by_cases hk : k = b
  ·subst hk
   unfold World.cell? at h
   rw [hc] at h
   cases o' with
   | cells c t fz => exact absurd rfl (hn c t fz)
   | _ => simp at h
  ·rw [RowKit.Below.heap_setCell _ _ _ _ hk]; exact hc
theorem storeCells_run {b o : Nat} : ∀ (us : List Value) (i : Nat) (w : World),(∀ u ∈ us,u.oneCell' = true) ->
  (∀ j,j < us.length -> ∃ v,w.cell? ⟨b,o + (i + j),none⟩ = some v /\ w.frozen? ⟨b,o + (i + j),none⟩ = false) ->
  ∃ w',(storeCells ⟨b,o,none⟩ us i).run P w = .ok () w' /\ Frm w (fun x => x.1 = b /\ o + i <= x.2 /\ x.2 < o + i + us.length) w' /\
   ∀ j,j < us.length -> w'.cell? ⟨b,o + (i + j),none⟩ = us[j]?
 | [],i,w,_,_ => ⟨w,rfl,.refl w _,fun j hj => by simp at hj⟩
 | u :: us,i,w,hu,hw => by
  obtain ⟨v,hv,hz⟩ := hw 0 (by simp)
  rw [Nat.add_zero] at hv hz
  have hst : (store (Addr.add ⟨b,o,none⟩ i) u).run P w = .ok () (w.setCell ⟨b,o + i,none⟩ u) := by
   rw [add_lit,run_store _ _ _ _ _ (hu u (by simp)),hv]
   simp [hz]
  have hF := Frm.setCell (v:=u) hv
  obtain ⟨w',h1,h2,h3⟩ := storeCells_run us (i + 1) (w.setCell ⟨b,o + i,none⟩ u) (fun x hx => hu x (by simp [hx])) (fun j hj => by
   obtain ⟨v',hv',hz'⟩ := hw (j + 1) (by simp; omega)
   rw [show i + (j + 1) = i + 1 + j by omega] at hv' hz'
   obtain ⟨v'',hv''⟩ := hF.live hv'
   exact ⟨v'',hv'',by rw [World.frozen?_setCell]; exact hz'⟩)
  refine ⟨w',?_,?_,fun j hj => ?_⟩
  ·simp only [storeCells,Sem.run_bind,hst,Result.andThen_ok,h1]
  ·refine (hF.mono (O' := fun x => x.1 = b /\ o + i <= x.2 /\ x.2 < o + i + (u :: us).length) ?_).trans (h2.mono (O' := fun x => x.1 = b /\ o + i <= x.2 /\ x.2 < o + i + (u :: us).length) ?_) fun x hx _ => hx
   ·rintro x rfl; simp
   ·rintro x ⟨hx1,hx2,hx3⟩; simp; omega
  ·cases j with
   | zero =>
    have hc : (w.setCell ⟨b,o + i,none⟩ u).cell? ⟨b,o + i,none⟩ = some u := World.cell?_setCell_same _ _ _ hv
    rw [Nat.add_zero]
    rw [h2.cell hc (by simp; omega)]
    rfl
   | succ j =>
    have := h3 j (by simpa using hj)
    rw [show i + (j + 1) = i + 1 + j by omega,this]
    rfl
theorem Step.same {nx : Nat} {H' : Heap} {w' : World} (hf : Fresh E nx) (h : Frm w (OwnAll H fp) w') (hs : ∀ id b,H' id = some b -> ∃ b',H id = some b') :
  Step E H fp w nx E H' fp w' nx where
 le := .refl E
 frm := h
 own := fun x ⟨id,b,hb,hx⟩ _ => let ⟨b',hb'⟩ := hs id b hb; ⟨id,b',hb',hx⟩
 nx := Nat.le_refl _
 fresh := hf
 ext := .refl _ _ _ _
theorem Sim.write {id : Nat} {b b' : Blk} {I : Info} {w' : World} {O : Nat × Nat -> Prop} (hs : Sim RT E H fp w) (hb : H id = some b) (hI : E.info id = some I)
  (h : Frm w O w') (hO : ∀ x,O x -> fp id x) (ok : BlkOK RT E b' I (fp id) w') : Sim RT E (putH H id (some b')) fp w' := by
 refine ⟨fun id' c hc => ?_,fun i j b1 b2 x h1 h2 hij hx => ?_,fun a v ha => ?_⟩
 ·rw [putH_eq] at hc
  split at hc
  ·rename_i hid
   subst hid
   simp only [Option.some.injEq] at hc
   subst hc
   exact ⟨I,hI,ok⟩
  ·rename_i hid
   obtain ⟨J,hJ,ok'⟩ := hs.blk id' c hc
   exact ⟨J,hJ,ok'.frm h fun x hx ho => hs.disj _ _ _ _ x hc hb hid hx (hO x ho)⟩
 ·have g : ∀ i b1,putH H id (some b') i = some b1 -> ∃ b2,H i = some b2 := by
   intro i b1 h1
   rw [putH_eq] at h1
   split at h1
   ·rename_i hi; subst hi; exact ⟨b,hb⟩
   ·exact ⟨b1,h1⟩
  obtain ⟨c1,h1⟩ := g i b1 h1
  obtain ⟨c2,h2⟩ := g j b2 h2
  exact hs.disj i j c1 c2 x h1 h2 hij hx
 ·obtain ⟨h1,h2,h3⟩ := hs.ro a v ha
  refine ⟨h1,h.cell h2 fun ho => h3 id b hb (hO _ ho),fun i c hc => ?_⟩
  rw [putH_eq] at hc
  split at hc
  ·rename_i hi; subst hi; exact h3 i b hb
  ·exact h3 i c hc
theorem put_some {id : Nat} {b b' : Blk} (hb : H id = some b) : ∀ i c,putH H id (some b') i = some c -> ∃ c',H i = some c' := by
 intro i c hc
 rw [putH_eq] at hc
 split at hc
 ·rename_i hi; subst hi; exact ⟨b,hb⟩
 ·exact ⟨c,hc⟩
theorem storeVar_run {t : TypeId} {u : Value} {b o : Nat} (ht : hasT P t = true) (hsz : u.cells.size = sizeT P t) (hu : ∀ x ∈ u.cells.toList,x.oneCell' = true)
  (hw : ∀ j,j < u.cells.size -> ∃ v,w.cell? ⟨b,o + j,none⟩ = some v /\ w.frozen? ⟨b,o + j,none⟩ = false) :
  ∃ w',(storeVar t ⟨b,o,none⟩ u).run P w = .ok () w' /\ Frm w (fun x => x.1 = b /\ o <= x.2 /\ x.2 < o + u.cells.size) w' /\
   ∀ j,j < u.cells.size -> w'.cell? ⟨b,o + j,none⟩ = some (u.cells.getD j undef) := by
 obtain ⟨w',h1,h2,h3⟩ := storeCells_run (P:=P) (b:=b) (o:=o) u.cells.toList 0 w hu (fun j hj => by
  rw [Nat.zero_add]; exact hw j (by simpa using hj))
 refine ⟨w',?_,by simpa using h2,fun j hj => ?_⟩
 ·simp only [storeVar,Sem.run_bind,run_size ht,Result.andThen_ok]
  rw [if_neg (by omega)]
  simpa using h1
 ·have := h3 j (by simpa using hj)
  rw [Nat.zero_add] at this
  rw [this]
  simp [Array.getD,hj]
theorem ints_map_get (kd : IntKind) (xs : List Int) {j : Nat} (h : j < xs.length) : (xs.map (Value.int kd))[j]? = some (.int kd (xs.getD j 0)) := by
 simp [h]
theorem patch_sound {nx id : Nat} {g : Bool} {kd kd' : IntKind} {xs zs : List Int} {I : Info} {lo : Nat} (hs : Sim RT E H fp w) (hf : Fresh E nx) (hb : H id = some (.ints g kd xs)) (hI : E.info id = some I)
  (hkd : zs = [] \/ kd = kd') (hlo : lo + zs.length <= xs.length) (P : Program) :
  ∃ w',(storeCells ⟨I.cb,I.coff + lo,none⟩ (zs.map (Value.int kd'))).run P w = .ok () w' /\
   Sim RT E (putH H id (some (.ints g kd (xs.take lo ++ (zs ++ xs.drop (lo + zs.length)))))) fp w' /\
   Step E H fp w nx E (putH H id (some (.ints g kd (xs.take lo ++ (zs ++ xs.drop (lo + zs.length)))))) fp w' nx := by
 obtain ⟨J,hJ,ok⟩ := hs.blk _ _ hb
 rw [hI] at hJ
 obtain rfl := Option.some.inj hJ
 obtain ⟨hw,hnn,hgr,hc⟩ := ok.kind
 have hcap := ok.cap
 have hlive : ∀ j,j < xs.length -> fp id (I.cb,I.coff + j) := by
  intro j hj
  refine (ok.own _).2 ⟨rfl,by simp,?_⟩
  simp only [hw]
  split <;> omega
 obtain ⟨w',s1,s2,s3⟩ := storeCells_run (P:=P) (b:=I.cb) (o:=I.coff + lo) (zs.map (Value.int kd')) 0 w (fun v hv => by
  obtain ⟨n,_,rfl⟩ := List.mem_map.1 hv; rfl) (fun j hj => by
  have := ok.live _ (hlive (lo + j) (by simp at hj; omega))
  simp only [Nat.zero_add]
  rw [<- Nat.add_assoc] at this
  exact this)
 have hOf : ∀ x : Nat × Nat,(x.1 = I.cb /\ I.coff + lo + 0 <= x.2 /\ x.2 < I.coff + lo + 0 + (zs.map (Value.int kd')).length) -> fp id x := by
  rintro ⟨x1,x2⟩ ⟨rfl,hx2,hx3⟩
  simp only [List.length_map] at hx3
  have := hlive (x2 - I.coff) (by simp only at hx2; omega)
  rw [show I.coff + (x2 - I.coff) = x2 by simp only at hx2; omega] at this
  exact this
 refine ⟨w',s1,hs.write hb hI s2 hOf ⟨ok.own,ok.cap,fun x hx => ?_,hw,by simp; omega,hgr,fun j hj => ?_⟩,Step.same hf (s2.mono fun x hx => ⟨id,_,hb,hOf x hx⟩) (put_some hb)⟩
 ·obtain ⟨v,hv,hz⟩ := ok.live x hx
  obtain ⟨v',hv'⟩ := s2.live hv
  exact ⟨v',hv',by rw [s2.frozen (World.block_lt_of_cell? _ _ hv)]; exact hz⟩
 ·have hj' : j < xs.length := by simp at hj; omega
  have htl : (xs.take lo).length = lo := by simp; omega
  by_cases h1 : j < lo
  ·rw [s2.cell (hc j hj') (by simp; omega)]
   simp [List.getD_eq_getElem?_getD,List.getElem?_append_left (show j < (xs.take lo).length by omega),List.getElem?_take_of_lt h1]
  ·by_cases h2 : j < lo + zs.length
   ·have := s3 (j - lo) (by simp; omega)
    rw [Nat.zero_add,ints_map_get kd' zs (by omega),show I.coff + lo + (j - lo) = I.coff + j by omega] at this
    rw [this]
    have hk : kd = kd' := by
     rcases hkd with h | h
     ·subst h; simp at h2; omega
     ·exact h
    subst hk
    congr 2
    simp only [List.getD_eq_getElem?_getD]
    rw [List.getElem?_append_right (by omega),htl,List.getElem?_append_left (by omega)]
   ·rw [s2.cell (hc j hj') (by simp; omega)]
    congr 2
    simp only [List.getD_eq_getElem?_getD]
    rw [List.getElem?_append_right (by omega),htl,List.getElem?_append_right (by omega),List.getElem?_drop]
    congr 2
    omega
theorem storeVar_cells {t : TypeId} {u : Value} {ad : Addr} {zs : List Int} {kd : IntKind} {w' : World} (ht : hasT P t = true) (hsz : zs.length = sizeT P t) (hu : u.cells.toList = zs.map (Value.int kd))
  (h : (storeCells ad (zs.map (Value.int kd))).run P w = .ok () w') : (storeVar t ad u).run P w = .ok () w' := by
 have hl : u.cells.size = sizeT P t := by rw [<- Array.length_toList,hu,List.length_map,hsz]
 simp only [storeVar,Sem.run_bind,run_size ht,Result.andThen_ok]
 rw [if_neg (by omega),hu]
 exact h
theorem allZ_eq {kd : IntKind} : ∀ {cs : List Atom},allZ kd cs = true -> cs = (zeros cs.length).map (Atom.int kd)
 | [],_ => rfl
 | a :: r,h => by
  unfold allZ at h
  split at h
  ·rename_i hh; simp at hh
  ·rename_i k n r' hh
   simp only [List.cons.injEq] at hh
   obtain ⟨rfl,rfl⟩ := hh
   simp only [Bool.and_eq_true,eqK_iff,decide_eq_true_eq] at h
   obtain ⟨rfl,rfl,h⟩ := h
   have ih := allZ_eq h
   rw [zeros,List.length_cons,List.replicate_succ,List.map_cons]
   rw [zeros] at ih
   rw [<- ih]
  ·simp at h
theorem ints_toList {kd : IntKind} {l : List Int} {vs : Array Value} (hn : vs.size = l.length) (h : ∀ j,j < l.length -> vs.getD j undef = .int kd (l.getD j 0)) : vs.toList = l.map (Value.int kd) := by
 refine List.ext_getElem (by simpa using hn) fun i h1 h2 => ?_
 have hi : i < l.length := by simpa using h2
 have := h i hi
 rw [Array.getD_eq_getD_getElem?,Array.getElem?_eq_getElem (by omega),Option.getD_some] at this
 rw [Array.getElem_toList,this,List.getElem_map,List.getD_eq_getElem?_getD,List.getElem?_eq_getElem hi,Option.getD_some]
theorem store_sound {nx : Nat} {t : TypeId} {x : Atom} {v : AV} {u ua : Value} {k : Heap -> Option Y} (hs : Sim RT E H fp w) (hf : Fresh E nx) (hx : R RT E x ua) (hv : RV RT E v u)
  (hk : storeA P H t x v k = some y) :
  ∃ H' w',k H' = some y /\ (Instr.storeAt t ua u).run P w = .ok () w' /\ Sim RT E H' fp w' /\ Step E H fp w nx E H' fp w' nx := by
 unfold storeA at hk
 split at hk
 ·rename_i id off
  split at hk
  ·rename_i wd cs hb
   rw [gate_some] at hk
   obtain ⟨hg,hk⟩ := hk
   simp only [Bool.and_eq_true] at hg
   obtain ⟨hsol,hh,hsz,hle⟩ := hg
   have hsz := Nat.eq_of_beq_eq_true hsz
   have hle := Nat.le_of_ble_eq_true hle
   rw [lenA_eq] at hsz hle
   rw [lenA_eq] at hle
   cases hx with
   | ptr hI =>
    rename_i I
    obtain ⟨J,hJ,ok⟩ := hs.blk _ _ hb
    rw [hI] at hJ
    obtain rfl := Option.some.inj hJ
    obtain ⟨hw,hn,hgr,hc⟩ := ok.kind
    obtain ⟨hcn,hcr⟩ := RV.cells hv hsol
    have hin : ∀ j,j < cs.length -> fp id (I.cb,I.coff + j) := by
     intro j hj
     refine (ok.own _).2 ⟨rfl,by simp,?_⟩
     simp only [hgr,Bool.false_eq_true,if_false,hw]
     omega
    obtain ⟨w',h1,h2,h3⟩ := storeVar_run (P:=P) (w:=w) (t:=t) (u:=u) (b:=I.cb) (o:=I.coff + off) hh (by omega) (fun z hz => by
     obtain ⟨j,hj⟩ := List.mem_iff_getElem?.1 hz
     have hlt : j < (cellsA v).length := by
      rcases Nat.lt_or_ge j u.cells.size with h' | h'
      ·omega
      ·rw [List.getElem?_eq_none (by simpa using h')] at hj; simp at hj
     have hr := hcr j _ (List.getElem?_eq_getElem hlt)
     have he : u.cells.getD j undef = z := by
      simp only [Array.getElem?_toList] at hj
      simp [Array.getD_eq_getD_getElem?,hj]
     rw [he] at hr
     exact knownA_cell hr (knownAs_get (solid_cells hsol) (List.getElem?_eq_getElem hlt))) (fun j hj => by
     have := ok.live _ (hin (off + j) (by omega))
     rw [<- Nat.add_assoc] at this
     exact this)
    refine ⟨_,w',hk,by simp only [Instr.storeAt,Instr.sureAddr,Sem.run_bind,Sem.run_pure,Result.andThen_ok,h1],?_,?_⟩
    ·refine hs.write hb hI h2 (fun x hx => ?_) ⟨ok.own,ok.cap,fun x hx => ?_,hw,by rw [putCells_len]; exact hn,hgr,fun j z hj => ?_⟩
     ·obtain ⟨hx1,hx2,hx3⟩ := hx
      have := hin (x.2 - I.coff) (by omega)
      rw [show I.coff + (x.2 - I.coff) = x.2 by omega,<- hx1] at this
      exact this
     ·obtain ⟨v',hv',hz⟩ := ok.live x hx
      obtain ⟨v'',hv''⟩ := h2.live hv'
      exact ⟨v'',hv'',by rw [h2.frozen (World.block_lt_of_cell? _ _ hv')]; exact hz⟩
     ·rw [putCells_get _ _ _ _ (by omega)] at hj
      by_cases hin' : off <= j /\ j < off + (cellsA v).length
      ·rw [if_pos hin'] at hj
       have := h3 (j - off) (by omega)
       rw [show I.coff + off + (j - off) = I.coff + j by omega] at this
       exact ⟨_,this,hcr _ _ hj⟩
      ·rw [if_neg hin'] at hj
       obtain ⟨v',hv',hr⟩ := hc j z hj
       exact ⟨v',h2.cell hv' (by simp; omega),hr⟩
    ·refine Step.same hf (h2.mono fun x hx => ?_) (put_some hb)
     obtain ⟨hx1,hx2,hx3⟩ := hx
     have := hin (x.2 - I.coff) (by omega)
     rw [show I.coff + (x.2 - I.coff) = x.2 by omega,<- hx1] at this
     exact ⟨id,_,hb,this⟩
  ·rename_i g kd xs hb
   cases hx with
   | ptr hI =>
   rename_i I
   have go : ∀ {zs : List Int} {kd' : IntKind},u.cells.toList = zs.map (Value.int kd') -> kd = kd' -> hasT P t = true -> zs.length = sizeT P t -> off + zs.length <= xs.length ->
     ∃ w',(Instr.storeAt t (.pointer (some ⟨I.cb,I.coff + off,none⟩)) u).run P w = .ok () w' /\ Sim RT E (putH H id (some (.ints g kd (xs.take off ++ (zs ++ xs.drop (off + zs.length)))))) fp w' /\
      Step E H fp w nx E (putH H id (some (.ints g kd (xs.take off ++ (zs ++ xs.drop (off + zs.length)))))) fp w' nx := by
    intro zs kd' hc hk' ht hz hle
    obtain ⟨w',h1,h2,h3⟩ := patch_sound (zs:=zs) (kd' := kd') (lo:=off) hs hf hb hI (Or.inr hk') hle P
    exact ⟨w',by simp only [Instr.storeAt,Instr.sureAddr,Sem.run_bind,Sem.run_pure,Result.andThen_ok,storeVar_cells ht hz hc h1],h2,h3⟩
   split at hk
   ·rename_i kd' n
    rw [gate_some,chk_some] at hk
    obtain ⟨hg,hlt,hk⟩ := hk
    simp only [Bool.and_eq_true,eqK_iff] at hg
    obtain ⟨hkk,hsz⟩ := hg
    have hsz := Nat.eq_of_beq_eq_true hsz
    have hh : hasT P t = true := by
     unfold hasT
     cases hi : P.info? t with
     | none => simp [sizeT,Program.cellsOf,hi] at hsz
     | some i => rfl
    have hv' := R.int_inv hv
    subst hv'
    obtain ⟨w',h1,h2,h3⟩ := go (zs:=[n]) (kd' := kd') (by simp [Value.cells]) hkk hh (by simp [hsz]) (by simp; omega)
    have he : xs.take off ++ ([n] ++ xs.drop (off + [n].length)) = xs.set off n := by
     rw [List.set_eq_take_append_cons_drop,if_pos hlt]
     simp
    rw [he] at h2 h3
    exact ⟨_,w',hk,h1,h2,h3⟩
   ·rename_i kd' ys
    rw [gate_some,chk_some] at hk
    obtain ⟨hg,⟨hl,hle⟩,hk⟩ := hk
    simp only [Bool.and_eq_true,eqK_iff] at hg
    obtain ⟨vs,rfl,hn,hc⟩ := hv
    obtain ⟨w',h1,h2,h3⟩ := go (zs:=ys) (kd' := kd') (by simpa [Value.cells] using ints_toList hn hc) hg.1 hg.2 hl hle
    exact ⟨_,w',hk,h1,h2,h3⟩
   ·rename_i cs
    rw [gate_some,chk_some] at hk
    obtain ⟨hg,hle,hk⟩ := hk
    simp only [Bool.and_eq_true] at hg
    obtain ⟨hz,hh,hsz⟩ := hg
    have hsz := Nat.eq_of_beq_eq_true hsz
    rw [lenA_eq] at hsz hle hk
    obtain ⟨vs,rfl,hc⟩ := hv
    have hzl : (zeros cs.length).length = cs.length := by simp [zeros]
    rw [allZ_eq hz] at hc
    obtain ⟨hn,hc⟩ := RCs_ints_inv hc
    obtain ⟨w',h1,h2,h3⟩ := go (zs:=zeros cs.length) (kd' := kd) (by simpa [Value.cells] using ints_toList hn hc) rfl hh (by omega) (by omega)
    rw [hzl] at h2 h3
    exact ⟨_,w',hk,h1,h2,h3⟩
   ·simp at hk
  ·simp at hk
 ·rename_i id i j
  split at hk
  ·rename_i g kd xs kd' n hb
   rw [gate_some] at hk
   obtain ⟨hg,hk⟩ := hk
   simp only [Bool.and_eq_true,eqK_iff] at hg
   obtain ⟨rfl,hj0,hsz⟩ := hg
   obtain rfl := Nat.eq_of_beq_eq_true hj0
   have hsz := Nat.eq_of_beq_eq_true hsz
   have hh : hasT P t = true := by
    unfold hasT
    cases hi : P.info? t with
    | none => simp [sizeT,Program.cellsOf,hi] at hsz
    | some i => rfl
   have hv' := R.int_inv hv
   subst hv'
   cases hx with
   | eptr hI hi hj =>
    rename_i I
    obtain ⟨J,hJ,ok⟩ := hs.blk _ _ hb
    rw [hI] at hJ
    obtain rfl := Option.some.inj hJ
    obtain ⟨hw,hn,hgr,hc⟩ := ok.kind
    have hcap := ok.cap
    have hin : ∀ j,j < xs.length -> fp id (I.cb,I.coff + j) := by
     intro j hj
     refine (ok.own _).2 ⟨rfl,by simp,?_⟩
     simp only [hw]
     split <;> omega
    obtain ⟨w',h1,h2,h3⟩ := storeVar_run (P:=P) (w:=w) (t:=t) (u:=.int kd n) (b:=I.cb) (o:=I.coff + i) hh (by simp [Value.cells,hsz]) (fun z hz => by
     simp [Value.cells] at hz; subst hz; rfl) (fun j hj => by
     simp [Value.cells] at hj
     subst hj
     exact ok.live _ (hin i (by omega)))
    have ha : (⟨I.cb,I.coff + (i * I.w + 0),none⟩ : Addr) = ⟨I.cb,I.coff + i,none⟩ := by rw [hw]; simp
    rw [ha]
    refine ⟨_,w',hk,by simp only [Instr.storeAt,Instr.sureAddr,Sem.run_bind,Sem.run_pure,Result.andThen_ok,h1],?_,?_⟩
    ·refine hs.write hb hI h2 (fun x hx => ?_) ⟨ok.own,ok.cap,fun x hx => ?_,hw,by simp [hn],hgr,fun j hj => ?_⟩
     ·obtain ⟨hx1,hx2,hx3⟩ := hx
      simp [Value.cells] at hx3
      have := hin i (by omega)
      rw [show I.coff + i = x.2 by omega,<- hx1] at this
      exact this
     ·obtain ⟨v',hv',hz⟩ := ok.live x hx
      obtain ⟨v'',hv''⟩ := h2.live hv'
      exact ⟨v'',hv'',by rw [h2.frozen (World.block_lt_of_cell? _ _ hv')]; exact hz⟩
     ·rw [List.length_set] at hj
      by_cases hji : j = i
      ·subst hji
       have := h3 0 (by simp [Value.cells])
       rw [Nat.add_zero] at this
       rw [this]
       simp [Value.cells,List.getD_eq_getElem?_getD,hj]
      ·have hv' := hc j hj
       rw [h2.cell hv' (by simp [Value.cells]; omega)]
       simp [List.getD_eq_getElem?_getD,List.getElem?_set_ne (Ne.symm hji)]
    ·refine Step.same hf (h2.mono fun x hx => ?_) (put_some hb)
     obtain ⟨hx1,hx2,hx3⟩ := hx
     simp [Value.cells] at hx3
     have := hin i (by omega)
     rw [show I.coff + i = x.2 by omega,<- hx1] at this
     exact ⟨id,_,hb,this⟩
  ·rename_i g kd xss b hb
   split at hk
   ·rename_i gb kd' ys hbb
    rw [gate_some] at hk
    obtain ⟨hg,hk⟩ := hk
    simp only [Bool.and_eq_true,eqK_iff] at hg
    obtain ⟨rfl,hj0,hsz,hh,hne⟩ := hg
    obtain rfl := Nat.eq_of_beq_eq_true hj0
    have hsz := Nat.eq_of_beq_eq_true hsz
    cases hx with
    | eptr hI hi hj =>
     rename_i I
     obtain ⟨J,hJ,ok⟩ := hs.blk _ _ hb
     rw [hI] at hJ
     obtain rfl := Option.some.inj hJ
     obtain ⟨hw,hn,hgr,hc⟩ := ok.kind
     have hw : I.w = 1 := hw
     have hcap := ok.cap
     have hin : ∀ j,j < xss.length -> fp id (I.cb,I.coff + j) := by
      intro j hj
      refine (ok.own _).2 ⟨rfl,by simp,?_⟩
      simp only [hw]
      split <;> omega
     have hv' : R RT E (.full b true) u := hv
     have hcells : u.cells = #[u] := by cases hv'; rfl
     have hone : u.oneCell' = true := by cases hv'; rfl
     obtain ⟨w',h1,h2,h3⟩ := storeVar_run (P:=P) (w:=w) (t:=t) (u:=u) (b:=I.cb) (o:=I.coff + i) hh (by simp [hcells,hsz]) (fun z hz => by
      simp [hcells] at hz; subst hz; exact hone) (fun j hj => by
      simp [hcells] at hj
      subst hj
      exact ok.live _ (hin i (by omega)))
     have ha : (⟨I.cb,I.coff + (i * I.w + 0),none⟩ : Addr) = ⟨I.cb,I.coff + i,none⟩ := by rw [hw]; simp
     rw [ha]
     refine ⟨_,w',hk,by simp only [Instr.storeAt,Instr.sureAddr,Sem.run_bind,Sem.run_pure,Result.andThen_ok,h1],?_,?_⟩
     ·refine hs.write hb hI h2 (fun x hx => ?_) ⟨ok.own,ok.cap,fun x hx => ?_,hw,hn,fun j hj => ?_⟩
      ·obtain ⟨hx1,hx2,hx3⟩ := hx
       simp [hcells] at hx3
       have := hin i (by omega)
       rw [show I.coff + i = x.2 by omega,<- hx1] at this
       exact this
      ·obtain ⟨v',hv',hz⟩ := ok.live x hx
       obtain ⟨v'',hv''⟩ := h2.live hv'
       exact ⟨v'',hv'',by rw [h2.frozen (World.block_lt_of_cell? _ _ hv')]; exact hz⟩
      ·by_cases hji : j = i
       ·subst hji
        have := h3 0 (by simp [hcells])
        rw [Nat.add_zero] at this
        rw [if_pos rfl]
        refine ⟨_,this,?_⟩
        simp only [hcells]
        exact hv'
       ·obtain ⟨v',hv',hr⟩ := hc j 0 (.roi kd (xss.getD j [])) hj rfl
        rw [if_neg hji]
        refine ⟨v',?_,hr⟩
        rw [hw,Nat.mul_one,Nat.add_zero] at hv'
        exact h2.cell hv' (by simp [hcells]; omega)
     ·refine Step.same hf (h2.mono fun x hx => ?_) (put_some hb)
      obtain ⟨hx1,hx2,hx3⟩ := hx
      simp [hcells] at hx3
      have := hin i (by omega)
      rw [show I.coff + i = x.2 by omega,<- hx1] at this
      exact ⟨id,_,hb,this⟩
   ·simp at hk
  ·simp at hk
 ·simp at hk
theorem alloc_sound {nx : Nat} {e : TypeId} {z : List Atom} (hs : Sim RT E H fp w) (hf : Fresh E nx) (hz : zeroA P e = some z) :
  ∃ E' fp' u w',(Instr.alloc e true (.tuple #[])).run P w = .ok u w' /\ R RT E' (.ptr nx 0) u /\
   Sim RT E' (putH H nx (some (.cells (lenA z) z))) fp' w' /\ Step E H fp w nx E' (putH H nx (some (.cells (lenA z) z))) fp' w' (nx + 1) := by
 obtain ⟨v,h1,h2,_⟩ := zero_sound (P:=P) (w:=w) (RT:=RT) (E:=E) hz
 obtain ⟨g1,g2⟩ := newCells (n:=1) (wd:=lenA z) (e:=e) hs hf h2 (by rw [lenA_eq]; omega)
 refine ⟨_,_,.pointer (some ⟨w.heap.size,0,none⟩),_,?_,?_,g1,g2⟩
 ·simp [Instr.alloc,h1,newVar,newRow]
 ·exact R.ptr (I:=⟨w.heap.size,0,1,1,lenA z,false⟩) (by simp [putI])
theorem alloc_at {b : Nat} {e : TypeId} {z : List Atom} (hs : Sim RT E H fp w) (hf : E.info b = none) (hz : zeroA P e = some z) :
  ∃ I u w',(Instr.alloc e true (.tuple #[])).run P w = .ok u w' /\ R RT (putI E b I) (.ptr b 0) u /\
   Sim RT (putI E b I) (putH H b (some (.cells (lenA z) z))) (putFp fp b (Own I)) w' /\ Frm w (fun _ => False) w' /\ I.cb = w.heap.size := by
 obtain ⟨v,h1,hc,_⟩ := zero_sound (P:=P) (w:=w) (RT:=RT) (E:=E) hz
 have hle : E.Le (putI E b ⟨w.heap.size,0,1,1,lenA z,false⟩) := putI_le hf
 have hsz := hc.1
 have hl : 1 * lenA z = z.length := by rw [lenA_eq]; omega
 refine ⟨⟨w.heap.size,0,1,1,lenA z,false⟩,.pointer (some ⟨w.heap.size,0,none⟩),w.alloc (.cells v.cells e),by simp [Instr.alloc,h1,newVar,newRow],R.ptr (I:=⟨w.heap.size,0,1,1,lenA z,false⟩) (by simp [putI]),
  Sim.add hs hf (Frm.alloc w _ (fun _ => False)) (fun _ _ h => h) (fun _ _ _ h => h) ⟨fun _ => Iff.rfl,Nat.le_refl _,fun x hx => ?_,rfl,hl,rfl,fun j x hj => ?_⟩ (fun x hx => new_apart hs hx.1),Frm.alloc w _ _,rfl⟩
 ·obtain ⟨h1,h2,h3⟩ := hx
  simp only [Bool.false_eq_true,if_false] at h3
  rw [h1,cells_alloc,frozen_alloc]
  exact ⟨v.cells[x.2]'(by omega),by simp,rfl⟩
 ·have hlt : j < z.length := by
   rcases Nat.lt_or_ge j z.length with h' | h'
   ·exact h'
   ·rw [List.getElem?_eq_none h'] at hj; simp at hj
  refine ⟨v.cells.getD j undef,?_,(hc.2 j x hj).mono hle⟩
  rw [Nat.zero_add,cells_alloc]
  simp [Array.getD,show j < v.cells.size by omega]
theorem bigZ_zero {e : TypeId} {kd : IntKind} {n : Nat} (h : bigZ P e = some (kd,n)) : zeroA P e = some ((zeros n).map (Atom.int kd)) := by
 unfold bigZ at h
 split at h
 ·rename_i k m r hz
  split at h
  ·rename_i hg
   simp only [Bool.and_eq_true] at hg
   simp only [Option.some.injEq,Prod.mk.injEq] at h
   obtain ⟨rfl,rfl⟩ := h
   rw [hz,lenA_eq]
   exact congrArg some (allZ_eq hg.2)
  ·simp at h
 ·simp at h
theorem alloc_ints_sound {nx : Nat} {e : TypeId} {kd : IntKind} {n : Nat} (hs : Sim RT E H fp w) (hf : Fresh E nx) (hz : bigZ P e = some (kd,n)) :
  ∃ E' fp' u w',(Instr.alloc e true (.tuple #[])).run P w = .ok u w' /\ R RT E' (.ptr nx 0) u /\
   Sim RT E' (putH H nx (some (.ints true kd (zeros n)))) fp' w' /\ Step E H fp w nx E' (putH H nx (some (.ints true kd (zeros n)))) fp' w' (nx + 1) := by
 obtain ⟨v,h1,h2,_⟩ := zero_sound (P:=P) (w:=w) (RT:=RT) (E:=E) (bigZ_zero hz)
 obtain ⟨hn,hc⟩ := RCs_ints_inv h2
 obtain ⟨g1,g2⟩ := newInts (k:=kd) (xs:=zeros n) (vs:=v.cells) (cap:=v.cells.size) (e:=e) hs hf rfl (by omega) (fun j hj => by
  have := hc j hj
  rw [Array.getD_eq_getD_getElem?,Array.getElem?_eq_getElem (by omega),Option.getD_some] at this
  rw [Array.getElem?_eq_getElem (by omega),this])
 refine ⟨_,_,.pointer (some ⟨w.heap.size,0,none⟩),_,?_,?_,g1,g2⟩
 ·simp [Instr.alloc,h1,newVar,newRow]
 ·exact R.ptr (I:=⟨w.heap.size,0,(zeros n).length,v.cells.size,1,true⟩) (by simp [putI])
theorem bigV_val {x : AV} {kd : IntKind} {n : Nat} (h : bigV x = some (kd,n)) : x = .agg ((zeros n).map (Atom.int kd)) := by
 unfold bigV at h
 split at h
 ·rename_i k m r
  split at h
  ·rename_i hg
   simp only [Bool.and_eq_true] at hg
   simp only [Option.some.injEq,Prod.mk.injEq] at h
   obtain ⟨rfl,rfl⟩ := h
   rw [lenA_eq]
   exact congrArg AV.agg (allZ_eq hg.2)
  ·simp at h
 ·simp at h
theorem box_ints_sound {nx : Nat} {e : TypeId} {x : AV} {u : Value} {kd : IntKind} {n : Nat} (hs : Sim RT E H fp w) (hf : Fresh E nx) (hx : RV RT E x u) (hz : bigV x = some (kd,n)) :
  ∃ E' fp' u' w',(Instr.box e u).run P w = .ok u' w' /\ R RT E' (.ptr nx 0) u' /\
   Sim RT E' (putH H nx (some (.ints true kd (zeros n)))) fp' w' /\ Step E H fp w nx E' (putH H nx (some (.ints true kd (zeros n)))) fp' w' (nx + 1) := by
 rw [bigV_val hz] at hx
 obtain ⟨vs,rfl,h2⟩ := hx
 obtain ⟨hn,hc⟩ := RCs_ints_inv h2
 obtain ⟨g1,g2⟩ := newInts (k:=kd) (xs:=zeros n) (vs:=vs) (cap:=vs.size) (e:=e) hs hf rfl (by omega) (fun j hj => by
  have := hc j hj
  rw [Array.getD_eq_getD_getElem?,Array.getElem?_eq_getElem (by omega),Option.getD_some] at this
  rw [Array.getElem?_eq_getElem (by omega),this])
 refine ⟨_,_,.pointer (some ⟨w.heap.size,0,none⟩),_,?_,?_,g1,g2⟩
 ·simp [Instr.box,newVar,newRow,Value.cells]
 ·exact R.ptr (I:=⟨w.heap.size,0,(zeros n).length,vs.size,1,true⟩) (by simp [putI])
theorem box_sound {nx : Nat} {e : TypeId} {x : AV} {u : Value} (hs : Sim RT E H fp w) (hf : Fresh E nx) (hx : RV RT E x u) (hsol : solid x = true) :
  ∃ E' fp' u' w',(Instr.box e u).run P w = .ok u' w' /\ R RT E' (.ptr nx 0) u' /\
   Sim RT E' (putH H nx (some (.cells (lenA (cellsA x)) (cellsA x)))) fp' w' /\ Step E H fp w nx E' (putH H nx (some (.cells (lenA (cellsA x)) (cellsA x)))) fp' w' (nx + 1) := by
 obtain ⟨g1,g2⟩ := newCells (n:=1) (wd:=lenA (cellsA x)) (e:=e) (vs:=u.cells) hs hf (RV.cells hx hsol) (by rw [lenA_eq]; omega)
 refine ⟨_,_,.pointer (some ⟨w.heap.size,0,none⟩),_,?_,?_,g1,g2⟩
 ·simp [Instr.box,newVar,newRow]
 ·exact R.ptr (I:=⟨w.heap.size,0,1,1,lenA (cellsA x),false⟩) (by simp [putI])
theorem reps_eq (z : List Atom) : ∀ n,buildA.reps n z = (List.replicate n z).flatten
 | 0 => rfl
 | n + 1 => by
  have happ : ∀ xs ys : List Atom,buildA.app xs ys = xs ++ ys := by
   intro xs ys
   induction xs with
   | nil => rfl
   | cons x xs ih => simp [buildA.app,ih]
  simp [buildA.reps,happ,reps_eq z n,List.replicate_succ]
theorem flatten_replicate_get (z : List Atom) (hz : 0 < z.length) : ∀ (n j : Nat),j < n * z.length -> ((List.replicate n z).flatten)[j]? = z[j % z.length]?
 | 0,j,h => by omega
 | n + 1,j,h => by
  rw [List.replicate_succ,List.flatten_cons,List.getElem?_append]
  by_cases hj : j < z.length
  ·rw [if_pos hj,Nat.mod_eq_of_lt hj]
  ·rw [if_neg hj,flatten_replicate_get z hz n (j - z.length) (by rw [Nat.succ_mul] at h; omega)]
   rw [<- Nat.mod_eq_sub_mod (by omega)]
theorem zeros_row {z : List Atom} {v : Array Value} (n : Nat) (hc : RCs RT E z v) (hz : 0 < z.length) :
  RCs RT E (buildA.reps n z) ((Array.range (n * v.size)).map (v[· % v.size]!)) := by
 have hsz := hc.1
 rw [reps_eq]
 refine ⟨by simp [hsz],fun j x hj => ?_⟩
 have hlt : j < n * z.length := by
  rcases Nat.lt_or_ge j (n * z.length) with h' | h'
  ·exact h'
  ·rw [List.getElem?_eq_none (by simp; exact h')] at hj; simp at hj
 rw [flatten_replicate_get z hz n j hlt] at hj
 have hr := hc.2 _ _ hj
 have hm : j % z.length < v.size := by rw [hsz]; exact Nat.mod_lt _ hz
 have : ((Array.range (n * v.size)).map (v[· % v.size]!)).getD j undef = v.getD (j % z.length) undef := by
  simp [Array.getD,hsz,hlt,Nat.mod_lt _ hz]
 rw [this]
 exact hr
theorem ints_cells {kd : IntKind} {l : List Int} {vs : Array Value} (hc : RCs RT E (l.map (Atom.int kd)) vs) :
  vs.size = l.length /\ ∀ j,j < l.length -> vs[j]? = some (.int kd (l.getD j 0)) := by
 have hsz := hc.1
 simp at hsz
 refine ⟨hsz,fun j hj => ?_⟩
 have hr := R.int_inv (hc.2 j (.int kd (l.getD j 0)) (by simp [hj]))
 rw [<- hr]
 simp [Array.getD,hsz,hj]
theorem row_run {e : TypeId} {z : List Atom} {zv : Value} (hzr : (zeroValue e).run P w = .ok zv w) (hc : RCs RT E z zv.cells) (n : Nat) (hsz : z.length = sizeT P e) :
  (do if n * sizeT P e = 0 then pure #[] else do pure (<- zeroValue e).cells : Sem (Array Value)).run P w = .ok (if n * sizeT P e = 0 then #[] else zv.cells) w /\
  RCs RT E (buildA.reps n z) ((Array.range (n * sizeT P e)).map ((if n * sizeT P e = 0 then #[] else zv.cells)[· % (if n * sizeT P e = 0 then #[] else zv.cells).size]!)) := by
 by_cases h0 : n * sizeT P e = 0
 ·refine ⟨by simp [h0],?_⟩
  rw [h0]
  refine ⟨?_,fun j x hj => ?_⟩
  ·rw [reps_eq]; simp [hsz]; exact h0.symm
  ·rw [reps_eq] at hj
   rw [List.getElem?_eq_none (by simp [hsz,h0])] at hj
   simp at hj
 ·refine ⟨by simp [h0,hzr],?_⟩
  simp only [h0,if_false]
  have hzs := hc.1
  rw [<- hsz,<- hzs]
  exact zeros_row n hc (by
   rcases Nat.eq_zero_or_pos z.length with h | h
   ·rw [hsz] at h; simp [h] at h0
   ·exact h)
theorem fill_len {place : Nat -> Option (Nat × Nat)} : ∀ {parts : List (Nat × AV)} {cs cs' : List Atom},fillA place cs parts = some cs' -> cs'.length = cs.length
 | [],cs,cs',h => by simp [fillA] at h; rw [h]
 | p :: ps,cs,cs',h => by
  simp only [fillA] at h
  split at h
  ·simp at h
  ·split at h
   ·rw [fill_len h,putCells_len]
   ·simp at h
theorem build_run {t e : TypeId} {n : Nat} {parts : List (Nat × AV)} {us : Array (Nat × Value)} {z cs : List Atom}
  (hp : All2 (fun (p : Nat × AV) (q : Nat × Value) => p.1 = q.1 /\ RV RT E p.2 q.2) parts us.toList) (hu : P.underlying t = some (.slice e)) (hz : zeroA P e = some z)
  (hfill : fillA (fun i => some (i * sizeT P e,sizeT P e)) (buildA.reps n z) parts = some cs) (hsz : lenA z = sizeT P e) (hn : n * sizeT P e <= 1000) :
  cs.length = n * sizeT P e /\ ∃ vs,RCs RT E cs vs /\ (Instr.buildSlice t n us).run P w = .ok (.slice (some ⟨w.heap.size,0,none⟩) n n) (w.alloc (.cells vs e)) := by
 obtain ⟨zv,hzr,hzc,hh⟩ := zero_sound (P:=P) (w:=w) (RT:=RT) (E:=E) hz
 rw [lenA_eq] at hsz
 refine ⟨by rw [fill_len hfill,reps_eq]; simp [hsz],?_⟩
 obtain ⟨r1,r2⟩ := row_run hzr hzc n hsz
 obtain ⟨vs,h1,h2⟩ := fill_sound hp r2 hfill
 refine ⟨vs,h2,?_⟩
 have hbig : ¬ n * sizeT P e > 2 ^ 24 := by omega
 by_cases h0 : n * sizeT P e = 0
 ·simp only [h0,if_true] at h1
  simp only [Instr.buildSlice,Sem.run_bind,run_und hu,Result.andThen_ok,run_size hh,h0,gt_iff_lt,Nat.not_lt_zero,if_false,if_true,Sem.run_pure,h1,newRow,run_newObj]
  rfl
 ·simp only [h0,if_false] at h1
  simp only [Instr.buildSlice,Sem.run_bind,run_und hu,Result.andThen_ok,run_size hh,hbig,if_false,h0,hzr,Sem.run_pure,h1,newRow,run_newObj]
  rfl
theorem buildSlice_sound {nx : Nat} {t : TypeId} {n : Nat} {parts : List (Nat × AV)} {us : Array (Nat × Value)} {k : AV -> Heap -> Nat -> Option Y} (hs : Sim RT E H fp w) (hf : Fresh E nx)
  (hp : All2 (fun (p : Nat × AV) (q : Nat × Value) => p.1 = q.1 /\ RV RT E p.2 q.2) parts us.toList) (hk : buildA P H nx t n parts k = some y) :
  ∃ v H' nx' E' fp' u w',k v H' nx' = some y /\ (Instr.buildSlice t n us).run P w = .ok u w' /\ RV RT E' v u /\ Sim RT E' H' fp' w' /\ Step E H fp w nx E' H' fp' w' nx' := by
 unfold buildA at hk
 split at hk
 ·rename_i e hu
  split at hk
  ·rename_i z hz
   split at hk
   ·rename_i cs hfill
    obtain ⟨zv,hzr,hzc,hh⟩ := zero_sound (P:=P) (w:=w) (RT:=RT) (E:=E) hz
    have main : lenA z = sizeT P e -> n * sizeT P e <= 1000 -> ∃ vs,RCs RT E cs vs /\ (Instr.buildSlice t n us).run P w = .ok (.slice (some ⟨w.heap.size,0,none⟩) n n) (w.alloc (.cells vs e)) := by
     intro hsz hn
     rw [lenA_eq] at hsz
     obtain ⟨r1,r2⟩ := row_run hzr hzc n hsz
     obtain ⟨vs,h1,h2⟩ := fill_sound hp r2 hfill
     refine ⟨vs,h2,?_⟩
     have hbig : ¬ n * sizeT P e > 2 ^ 24 := by omega
     by_cases h0 : n * sizeT P e = 0
     ·simp only [h0,if_true] at h1
      simp only [Instr.buildSlice,Sem.run_bind,run_und hu,Result.andThen_ok,run_size hh,h0,gt_iff_lt,Nat.not_lt_zero,if_false,if_true,Sem.run_pure,h1,newRow,run_newObj]
      rfl
     ·simp only [h0,if_false] at h1
      simp only [Instr.buildSlice,Sem.run_bind,run_und hu,Result.andThen_ok,run_size hh,hbig,if_false,h0,hzr,Sem.run_pure,h1,newRow,run_newObj]
      rfl
    split at hk
    ·rename_i kd he
     split at hk
     ·rename_i l hl
      rw [gate_some,gate_some] at hk
      obtain ⟨hg,hn,hk⟩ := hk
      simp only [Bool.and_eq_true] at hg
      have hg1 := Nat.eq_of_beq_eq_true hg.1
      have hg2 := Nat.eq_of_beq_eq_true hg.2
      have hn := Nat.le_of_ble_eq_true hn
      obtain ⟨vs,h2,hrun⟩ := main (by omega) (by rw [hg1]; omega)
      obtain rfl := intsOf_spec hl
      obtain ⟨hvs,hcell⟩ := ints_cells h2
      have hln : l.length = n := by
       obtain ⟨r1,r2⟩ := row_run hzr hzc n (by rw [<- lenA_eq]; omega)
       obtain ⟨vs',h1',h2'⟩ := fill_sound hp r2 hfill
       have hlen : ∀ {parts : List (Nat × AV)} {cs cs' : List Atom},fillA (fun i => some (i * sizeT P e,sizeT P e)) cs parts = some cs' -> cs'.length = cs.length := by
        intro parts
        induction parts with
        | nil => intro cs cs' h; simp [fillA] at h; rw [h]
        | cons p ps ih =>
         intro cs cs' h
         simp only [fillA] at h
         split at h
         ·rw [ih h,putCells_len]
         ·simp at h
       have := hlen hfill
       rw [reps_eq] at this
       simp at this
       rw [this,<- lenA_eq,hg2]
       omega
      obtain ⟨g1,g2⟩ := newInts (cap:=n) (k:=kd) (xs:=l) (vs:=vs) (e:=e) hs hf (by omega) (by omega) hcell
      refine ⟨_,_,_,_,_,_,_,hk,hrun,?_,g1,g2⟩
      have := R.full (RT:=RT) (E:=putI E nx ⟨w.heap.size,0,l.length,n,1,true⟩) (id:=nx) (nn:=true) (I:=⟨w.heap.size,0,l.length,n,1,true⟩) (base:=some ⟨w.heap.size,0,none⟩) (cap:=n) (by simp [putI]) (Or.inl rfl) (fun _ => rfl) (by simp; omega) (fun _ => rfl)
      simp only [hln] at this ⊢
      exact this
     ·simp at hk
    ·rw [gate_some] at hk
     obtain ⟨hg,hk⟩ := hk
     simp only [Bool.and_eq_true] at hg
     have hg1 := Nat.eq_of_beq_eq_true hg.1
     have hg3 := Nat.le_of_ble_eq_true hg.2.2
     obtain ⟨vs,h2,hrun⟩ := main hg1 hg3
     have hcn : n * sizeT P e = cs.length := by
      have hlen : ∀ {parts : List (Nat × AV)} {cs cs' : List Atom},fillA (fun i => some (i * sizeT P e,sizeT P e)) cs parts = some cs' -> cs'.length = cs.length := by
       intro parts
       induction parts with
       | nil => intro cs cs' h; simp [fillA] at h; rw [h]
       | cons p ps ih =>
        intro cs cs' h
        simp only [fillA] at h
        split at h
        ·rw [ih h,putCells_len]
        ·simp at h
      have := hlen hfill
      rw [reps_eq] at this
      simp at this
      rw [this,<- lenA_eq,hg1]
     obtain ⟨g1,g2⟩ := newCells (n:=n) (wd:=sizeT P e) (e:=e) hs hf h2 hcn
     refine ⟨_,_,_,_,_,_,_,hk,hrun,?_,g1,g2⟩
     exact R.full (I:=⟨w.heap.size,0,n,n,sizeT P e,false⟩) (base:=some ⟨w.heap.size,0,none⟩) (by simp [putI]) (Or.inl rfl) (fun _ => rfl) (Nat.le_refl _) (fun _ => rfl)
   ·simp at hk
  ·simp at hk
 ·simp at hk
theorem wrap_small {l : Int} (h0 : 0 <= l) (h1 : l <= (most : Int)) : IntKind.i64.wrap l = l := by
 unfold most at h1
 have : l % (2 ^ 64 : Int) = l := Int.emod_eq_of_lt h0 (by omega)
 simp only [IntKind.wrap,IntKind.bits,IntKind.signed,this]
 rw [if_neg]
 simp
 omega
theorem R.nils_inv0 {v : Value} (h : R RT E .nils v) : v = .slice none 0 0 := by cases h; rfl
theorem make_sound {nx : Nat} {t : TypeId} {l c : AV} {ul uc : Value} {k : AV -> Heap -> Nat -> Option Y} (hs : Sim RT E H fp w) (hf : Fresh E nx)
  (hl : RV RT E l ul) (hc : RV RT E c uc) (hk : makeA P H nx t l c k = some y) :
  ∃ v H' nx' E' fp' u w',k v H' nx' = some y /\ (Instr.makeSlice t ul uc).run P w = .ok u w' /\ RV RT E' v u /\ Sim RT E' H' fp' w' /\ Step E H fp w nx E' H' fp' w' nx' := by
 unfold makeA at hk
 split at hk
 ·rename_i e _ l _ c hu
  split at hk
  ·rename_i hz
   split at hk
   ·rename_i kd hkd
    rw [gate_some,chk_some] at hk
    obtain ⟨hg,⟨h0,h1,h2⟩,hk⟩ := hk
    simp only [Bool.and_eq_true] at hg
    obtain ⟨hb,hsz⟩ := hg
    have hb := Nat.le_of_ble_eq_true hb
    have hsz := Nat.eq_of_beq_eq_true hsz
    have hl' := R.int_inv hl
    have hc' := R.int_inv hc
    subst hl' hc'
    obtain ⟨zv,hzr,hzc,hh⟩ := zero_sound (P:=P) (w:=w) (RT:=RT) (E:=E) hz
    have hzs : zv.cells.size = 1 := hzc.1
    have hz0 : zv.cells[0]? = some (.slice none 0 0) := by
     have := hzc.2 0 .nils rfl
     have := R.nils_inv0 this
     rw [Array.getElem?_eq_getElem (by omega)]
     simpa [Array.getD,hzs] using this
    have hti : (typeInfo e).run P w = .ok ((P.info? e).getD default) w := by
     unfold hasT at hh
     cases hi : P.info? e with
     | none => simp [hi] at hh
     | some i => simp [typeInfo,hi]
    have hbytes : ((P.info? e).getD default).bytes <= 100 := by
     unfold Program.bytesOf at hb
     unfold hasT at hh
     cases hi : P.info? e with
     | none => simp [hi] at hh
     | some i => simpa [hi] using hb
    have hm : (most : Int) = 17592186043904 := rfl
    have hwl := wrap_small h0 (by omega : l <= (most : Int))
    have hwc := wrap_small (by omega : 0 <= c) (by omega : c <= (most : Int))
    have htl : ¬ ((((P.info? e).getD default).bytes : Int) * c > 2 ^ 48) := by
     have : (((P.info? e).getD default).bytes : Int) * c <= 100 * c := Int.mul_le_mul_of_nonneg_right (by omega) (by omega)
     omega
    let vs : Array Value := (Array.range (c.toNat * sizeT P e)).map ((if c.toNat * sizeT P e = 0 then #[] else zv.cells)[· % (if c.toNat * sizeT P e = 0 then #[] else zv.cells).size]!)
    have hvs : vs.size = c.toNat := by simp [vs,hsz]
    have hcell : ∀ j,j < l.toNat -> vs[j]? = some (.slice none 0 0) := by
     intro j hj
     have hjc : j < c.toNat := by omega
     have hne : c.toNat ≠ 0 := by omega
     simp [vs,hsz,hjc,hne,hzs,Nat.mod_one]
     have := hz0
     rw [Array.getElem?_eq_getElem (by omega)] at this
     simpa using this
    obtain ⟨g1,g2⟩ := newRows (n:=l.toNat) (cap:=c.toNat) (k:=kd) (vs:=vs) (e:=e) hs hf hvs (by omega) hcell
    refine ⟨_,_,_,_,_,.slice (some ⟨w.heap.size,0,none⟩) l.toNat c.toNat,_,hk,?_,?_,g1,g2⟩
    ·have hneg : ¬ c < 0 := by omega
     have hneg2 : ¬ l < 0 := by omega
     have hneg3 : ¬ l > c := by omega
     by_cases hn : c.toNat * sizeT P e = 0
     ·simp only [Instr.makeSlice,Sem.run_bind,run_und hu,Result.andThen_ok,asInt,asIntOf,Sem.run_pure,hti,hwl,hwc,hneg,hneg2,hneg3,htl,decide_false,Bool.or_false,Bool.false_eq_true,if_false,run_askRoom,run_size hh,hn,if_true,newRow,run_newObj]
      simp only [vs,hn,if_true]
      rfl
     ·simp only [Instr.makeSlice,Sem.run_bind,run_und hu,Result.andThen_ok,asInt,asIntOf,Sem.run_pure,hti,hwl,hwc,hneg,hneg2,hneg3,htl,decide_false,Bool.or_false,Bool.false_eq_true,if_false,run_askRoom,run_size hh,hn,hzr,newRow,run_newObj]
      simp only [vs,hn,if_false]
      rfl
    ·exact R.full (RT:=RT) (E:=putI E nx ⟨w.heap.size,0,l.toNat,c.toNat,1,true⟩) (id:=nx) (nn:=true) (I:=⟨w.heap.size,0,l.toNat,c.toNat,1,true⟩) (base:=some ⟨w.heap.size,0,none⟩) (cap:=c.toNat) (by simp [putI]) (Or.inl rfl) (fun _ => rfl) (by simp only; omega) (fun _ => rfl)
   ·simp at hk
  ·rename_i kd z hz
   rw [gate_some,chk_some] at hk
   obtain ⟨hg,⟨h0,h1,h2⟩,hk⟩ := hk
   simp only [Bool.and_eq_true,decide_eq_true_eq] at hg
   obtain ⟨hb,hsz,rfl⟩ := hg
   have hb := Nat.le_of_ble_eq_true hb
   have hsz := Nat.eq_of_beq_eq_true hsz
   have hl' := R.int_inv hl
   have hc' := R.int_inv hc
   subst hl' hc'
   obtain ⟨zv,hzr,hzc,hh⟩ := zero_sound (P:=P) (w:=w) (RT:=RT) (E:=E) hz
   obtain ⟨hzs,hzi⟩ := ints_cells (kd:=kd) (l:=[0]) hzc
   simp at hzs
   have hz0 := hzi 0 (by simp)
   simp at hz0
   have hti : (typeInfo e).run P w = .ok ((P.info? e).getD default) w := by
    unfold hasT at hh
    cases hi : P.info? e with
    | none => simp [hi] at hh
    | some i => simp [typeInfo,hi]
   have hbytes : ((P.info? e).getD default).bytes <= 8 := by
    unfold Program.bytesOf at hb
    unfold hasT at hh
    cases hi : P.info? e with
    | none => simp [hi] at hh
    | some i => simpa [hi] using hb
   have hm : (most : Int) = 17592186043904 := rfl
   have hwl := wrap_small h0 (by omega : l <= (most : Int))
   have hwc := wrap_small (by omega : 0 <= c) h2
   have htl : ¬ ((((P.info? e).getD default).bytes : Int) * c > 2 ^ 48) := by
    have : (((P.info? e).getD default).bytes : Int) * c <= 8 * c := Int.mul_le_mul_of_nonneg_right (by omega) (by omega)
    omega
   let vs : Array Value := (Array.range (c.toNat * sizeT P e)).map ((if c.toNat * sizeT P e = 0 then #[] else zv.cells)[· % (if c.toNat * sizeT P e = 0 then #[] else zv.cells).size]!)
   have hvs : vs.size = c.toNat := by simp [vs,hsz]
   have hcell : ∀ j,j < (zeros l.toNat).length -> vs[j]? = some (.int kd ((zeros l.toNat).getD j 0)) := by
    intro j hj
    simp [zeros] at hj
    have hjc : j < c.toNat := by omega
    have hne : c.toNat ≠ 0 := by omega
    have hg : (zeros l.toNat).getD j 0 = 0 := by simp [zeros,List.getD_eq_getElem?_getD,hj]
    rw [hg]
    simp [vs,hsz,hjc,hne,hzs,Nat.mod_one]
    have := hz0
    rw [Array.getElem?_eq_getElem (by omega)] at this
    simpa using this
   have hlen : (zeros l.toNat).length = l.toNat := by simp [zeros]
   obtain ⟨g1,g2⟩ := newInts (cap:=c.toNat) (k:=kd) (xs:=zeros l.toNat) (vs:=vs) (e:=e) hs hf hvs (by rw [hlen]; omega) hcell
   refine ⟨_,_,_,_,_,.slice (some ⟨w.heap.size,0,none⟩) l.toNat c.toNat,_,hk,?_,?_,g1,g2⟩
   ·have hneg : ¬ c < 0 := by omega
    have hneg2 : ¬ l < 0 := by omega
    have hneg3 : ¬ l > c := by omega
    by_cases hn : c.toNat * sizeT P e = 0
    ·simp only [Instr.makeSlice,Sem.run_bind,run_und hu,Result.andThen_ok,asInt,asIntOf,Sem.run_pure,hti,hwl,hwc,hneg,hneg2,hneg3,htl,decide_false,Bool.or_false,Bool.false_eq_true,if_false,run_askRoom,run_size hh,hn,if_true,newRow,run_newObj]
     simp only [vs,hn,if_true]
     rfl
    ·simp only [Instr.makeSlice,Sem.run_bind,run_und hu,Result.andThen_ok,asInt,asIntOf,Sem.run_pure,hti,hwl,hwc,hneg,hneg2,hneg3,htl,decide_false,Bool.or_false,Bool.false_eq_true,if_false,run_askRoom,run_size hh,hn,hzr,newRow,run_newObj]
     simp only [vs,hn,if_false]
     rfl
   ·have := R.full (RT:=RT) (E:=putI E nx ⟨w.heap.size,0,(zeros l.toNat).length,c.toNat,1,true⟩) (id:=nx) (nn:=true) (I:=⟨w.heap.size,0,(zeros l.toNat).length,c.toNat,1,true⟩) (base:=some ⟨w.heap.size,0,none⟩) (cap:=c.toNat) (by simp [putI]) (Or.inl rfl) (fun _ => rfl) (by simp only [hlen]; omega) (fun _ => rfl)
    simp only [hlen] at this ⊢
    exact this
  ·simp at hk
 ·simp at hk
theorem mk_sound {b : Nat} {t : TypeId} {l c : AV} {ul uc : Value} {k : IntKind -> List Int -> Option Y} (hs : Sim RT E H fp w) (hf : E.info b = none)
  (hl : RV RT E l ul) (hc : RV RT E c uc) (hk : mkA P t l c k = some y) :
  ∃ kd xs I u w',k kd xs = some y /\ (Instr.makeSlice t ul uc).run P w = .ok u w' /\ R RT (putI E b I) (.full b true) u /\
   Sim RT (putI E b I) (putH H b (some (.ints true kd xs))) (putFp fp b (Own I)) w' /\ Frm w (fun _ => False) w' /\ I.cb = w.heap.size := by
 unfold mkA at hk
 split at hk
 ·rename_i e _ l _ c hu
  split at hk
  ·rename_i kd z hz
   rw [gate_some,chk_some] at hk
   obtain ⟨hg,⟨h0,h1,h2⟩,hk⟩ := hk
   simp only [Bool.and_eq_true,decide_eq_true_eq] at hg
   obtain ⟨hb,hsz,rfl⟩ := hg
   have hb := Nat.le_of_ble_eq_true hb
   have hsz := Nat.eq_of_beq_eq_true hsz
   have hl' := R.int_inv hl
   have hc' := R.int_inv hc
   subst hl' hc'
   obtain ⟨zv,hzr,hzc,hh⟩ := zero_sound (P:=P) (w:=w) (RT:=RT) (E:=E) hz
   obtain ⟨hzs,hzi⟩ := ints_cells (kd:=kd) (l:=[0]) hzc
   simp at hzs
   have hz0 := hzi 0 (by simp)
   simp at hz0
   have hti : (typeInfo e).run P w = .ok ((P.info? e).getD default) w := by
    unfold hasT at hh
    cases hi : P.info? e with
    | none => simp [hi] at hh
    | some i => simp [typeInfo,hi]
   have hbytes : ((P.info? e).getD default).bytes <= 8 := by
    unfold Program.bytesOf at hb
    unfold hasT at hh
    cases hi : P.info? e with
    | none => simp [hi] at hh
    | some i => simpa [hi] using hb
   have hm : (most : Int) = 17592186043904 := rfl
   have hwl := wrap_small h0 (by omega : l <= (most : Int))
   have hwc := wrap_small (by omega : 0 <= c) h2
   have htl : ¬ ((((P.info? e).getD default).bytes : Int) * c > 2 ^ 48) := by
    have : (((P.info? e).getD default).bytes : Int) * c <= 8 * c := Int.mul_le_mul_of_nonneg_right (by omega) (by omega)
    omega
   let vs : Array Value := (Array.range (c.toNat * sizeT P e)).map ((if c.toNat * sizeT P e = 0 then #[] else zv.cells)[· % (if c.toNat * sizeT P e = 0 then #[] else zv.cells).size]!)
   have hvs : vs.size = c.toNat := by simp [vs,hsz]
   have hcell : ∀ j,j < (zeros l.toNat).length -> vs[j]? = some (.int kd ((zeros l.toNat).getD j 0)) := by
    intro j hj
    simp [zeros] at hj
    have hjc : j < c.toNat := by omega
    have hne : c.toNat ≠ 0 := by omega
    have hg : (zeros l.toNat).getD j 0 = 0 := by simp [zeros,List.getD_eq_getElem?_getD,hj]
    rw [hg]
    simp [vs,hsz,hjc,hne,hzs,Nat.mod_one]
    have := hz0
    rw [Array.getElem?_eq_getElem (by omega)] at this
    simpa using this
   have hlen : (zeros l.toNat).length = l.toNat := by simp [zeros]
   have hsim : Sim RT (putI E b ⟨w.heap.size,0,(zeros l.toNat).length,c.toNat,1,true⟩) (putH H b (some (.ints true kd (zeros l.toNat)))) (putFp fp b (Own ⟨w.heap.size,0,(zeros l.toNat).length,c.toNat,1,true⟩)) (w.alloc (.cells vs e)) := by
    refine Sim.add hs hf (Frm.alloc w _ (fun _ => False)) (fun _ _ h => h) (fun _ _ _ h => h) ⟨fun _ => Iff.rfl,by simp only [hlen]; omega,fun x hx => ?_,rfl,rfl,fun _ => rfl,fun j hj => ?_⟩
     (fun x hx => new_apart hs hx.1)
    ·obtain ⟨h1,h2,h3⟩ := hx
     simp only [if_true] at h3
     rw [h1,cells_alloc,frozen_alloc]
     exact ⟨vs[x.2]'(by omega),by simp,rfl⟩
    ·rw [Nat.zero_add,cells_alloc]
     exact hcell j hj
   refine ⟨kd,zeros l.toNat,_,.slice (some ⟨w.heap.size,0,none⟩) l.toNat c.toNat,_,hk,?_,?_,hsim,Frm.alloc w _ _,rfl⟩
   ·have hneg : ¬ c < 0 := by omega
    have hneg2 : ¬ l < 0 := by omega
    have hneg3 : ¬ l > c := by omega
    by_cases hn : c.toNat * sizeT P e = 0
    ·simp only [Instr.makeSlice,Sem.run_bind,run_und hu,Result.andThen_ok,asInt,asIntOf,Sem.run_pure,hti,hwl,hwc,hneg,hneg2,hneg3,htl,decide_false,Bool.or_false,Bool.false_eq_true,if_false,run_askRoom,run_size hh,hn,if_true,newRow,run_newObj]
     simp only [vs,hn,if_true]
     rfl
    ·simp only [Instr.makeSlice,Sem.run_bind,run_und hu,Result.andThen_ok,asInt,asIntOf,Sem.run_pure,hti,hwl,hwc,hneg,hneg2,hneg3,htl,decide_false,Bool.or_false,Bool.false_eq_true,if_false,run_askRoom,run_size hh,hn,hzr,newRow,run_newObj]
     simp only [vs,hn,if_false]
     rfl
   ·have := R.full (RT:=RT) (E:=putI E b ⟨w.heap.size,0,(zeros l.toNat).length,c.toNat,1,true⟩) (id:=b) (nn:=true) (I:=⟨w.heap.size,0,(zeros l.toNat).length,c.toNat,1,true⟩) (base:=some ⟨w.heap.size,0,none⟩) (cap:=c.toNat) (by simp [putI]) (Or.inl rfl) (fun _ => rfl) (by simp only [hlen]; omega) (fun _ => rfl)
    simp only [hlen] at this ⊢
    exact this
  ·simp at hk
 ·simp at hk
def Holds (w : World) (kd : IntKind) (xs : List Int) (u : Value) : Prop :=
 ∃ base cap,u = .slice base xs.length cap /\ xs.length <= cap /\ ∀ i,i < xs.length -> ∃ a,base = some a /\ a.spot = none /\ w.cell? ⟨a.block,a.off + i,none⟩ = some (.int kd (xs.getD i 0))
theorem ro_sound {kd : IntKind} {x : Atom} {u : Value} {k : List Int -> Option Nat -> Option Y} (hs : Sim RT E H fp w) (hx : R RT E x u) (hk : roA H kd x k = some y) :
  ∃ xs l,k xs l = some y /\ Holds w kd xs u /\
   (match l with
    | none => R RT E (.roi kd xs) u
    | some id => ∃ b,H id = some b /\ ∀ base cap a i,u = .slice base xs.length cap -> base = some a -> i < xs.length -> fp id (a.block,a.off + i)) := by
 unfold roA at hk
 split at hk
 ·rw [gate_some,eqK_iff] at hk
  obtain ⟨rfl,hk⟩ := hk
  refine ⟨_,_,hk,?_,hx⟩
  cases hx with
  | roi hc hx => exact ⟨_,_,rfl,hc,fun i hi => let ⟨a,hb,hsp,hm⟩ := hx i hi; ⟨a,hb,hsp,(hs.ro _ _ hm).2.1⟩⟩
 ·cases hx
  exact ⟨_,_,hk,⟨none,0,rfl,Nat.le_refl _,fun i hi => by simp at hi⟩,R.roi (xs:=[]) (cap:=0) (base:=none) (Nat.le_refl _) (fun i hi => by simp at hi)⟩
 ·cases hx with
  | empt base => exact ⟨_,_,hk,⟨base,0,rfl,Nat.le_refl _,fun i hi => by simp at hi⟩,R.roi (xs:=[]) (cap:=0) (base:=base) (Nat.le_refl _) (fun i hi => by simp at hi)⟩
 ·split at hk
  ·rename_i id nn _ g kd' xs hb
   rw [gate_some,eqK_iff] at hk
   obtain ⟨rfl,hk⟩ := hk
   cases hx with
   | full hI hbase hn hcc hgg =>
    rename_i cap I base
    obtain ⟨J,hJ,ok⟩ := hs.blk _ _ hb
    rw [hI] at hJ
    obtain rfl := Option.some.inj hJ
    obtain ⟨hw,hnn,hgr,hc⟩ := ok.kind
    have hcap := ok.cap
    refine ⟨_,_,hk,⟨base,cap,by rw [hnn],by omega,fun i hi => ?_⟩,_,hb,fun base' cap' a i he hba hi => ?_⟩
    ·rcases hbase with hbase | ⟨h0,_⟩
     ·exact ⟨_,hbase,rfl,hc i hi⟩
     ·omega
    ·simp only [Value.slice.injEq] at he
     obtain ⟨rfl,_,_⟩ := he
     rcases hbase with hbase | ⟨h0,_⟩
     ·rw [hba] at hbase
      obtain rfl := Option.some.inj hbase
      refine (ok.own _).2 ⟨rfl,by simp,?_⟩
      simp only [hw]
      split <;> omega
     ·omega
  ·simp at hk
 ·split at hk
  ·rename_i id lo n _ g kd' xs hb
   rw [gate_some,eqK_iff] at hk
   obtain ⟨rfl,hk⟩ := hk
   cases hx with
   | sub hI hww hl hcap' hbase =>
    rename_i cap I base
    obtain ⟨J,hJ,ok⟩ := hs.blk _ _ hb
    rw [hI] at hJ
    obtain rfl := Option.some.inj hJ
    obtain ⟨hw,hnn,hgr,hc⟩ := ok.kind
    have hcap := ok.cap
    have hlen : ((xs.drop lo).take n).length = n := by simp; omega
    refine ⟨_,_,hk,⟨base,cap,by rw [hlen],by rw [hlen]; exact hcap',fun i hi => ?_⟩,_,hb,fun base' cap' a i he hba hi => ?_⟩
    ·rw [hlen] at hi
     rcases hbase with hbase | h0
     ·refine ⟨_,hbase,rfl,?_⟩
      have := hc (lo + i) (by omega)
      simp only [hw,Nat.mul_one]
      rw [Nat.add_assoc,this]
      congr 2
      simp [List.getD_eq_getElem?_getD,List.getElem?_take_of_lt hi,List.getElem?_drop]
     ·omega
    ·rw [hlen] at hi
     simp only [Value.slice.injEq] at he
     obtain ⟨rfl,_,_⟩ := he
     rcases hbase with hbase | h0
     ·rw [hba] at hbase
      obtain rfl := Option.some.inj hbase
      refine (ok.own _).2 ⟨rfl,by simp; omega,?_⟩
      simp only [hw]
      split <;> omega
     ·omega
  ·simp at hk
 ·simp at hk
theorem first_run {kd : IntKind} {xs : List Int} {u : Value} (h : Holds w kd xs u) (n : Nat) (hn : n <= xs.length) :
  (Builtin.firstCells 1 n u).run P w = .ok ((xs.take n).map (Value.int kd)).toArray w := by
 obtain ⟨base,cap,rfl,hc,hx⟩ := h
 cases base with
 | none =>
  have : n = 0 := by
   rcases Nat.eq_zero_or_pos n with h | h
   ·exact h
   ·obtain ⟨a,hb,_⟩ := hx 0 (by omega); simp at hb
  subst this
  simp [Builtin.firstCells]
 | some a =>
  simp only [Builtin.firstCells,Nat.mul_one]
  rcases Nat.eq_zero_or_pos n with h0 | h0
  ·subst h0; simp [loadCells,loadCellsFrom]
  ·obtain ⟨a',hb,hsp,_⟩ := hx 0 (by omega)
   obtain rfl := Option.some.inj hb
   have := run_loadCells (P:=P) w a n (fun j => .int kd (xs.getD j 0)) (fun j hj => by
    obtain ⟨a',hb,_,hm⟩ := hx j (by omega)
    obtain rfl := Option.some.inj hb
    rw [addr_eta hsp,add_lit]
    exact hm)
   rw [this]
   congr 2
   apply List.ext_getElem?
   intro j
   by_cases hj : j < n
   ·simp [hj,List.getElem?_take_of_lt hj,show j < xs.length by omega]
   ·rw [List.getElem?_eq_none (by simp; omega),List.getElem?_eq_none (by simp; omega)]
theorem growBy_le (n : Nat) : ∀ (r c : Nat),c <= n + (n + 768) / 4 -> Builtin.growBy n r c <= n + (n + 768) / 4
 | 0,c,h => by simpa [Builtin.growBy] using h
 | r + 1,c,h => by
  simp only [Builtin.growBy]
  split
  ·exact h
  ·exact growBy_le n r _ (by omega)
theorem nextcap_le {n c : Nat} (h : c < n) : Builtin.nextslicecap n c <= 2 * n + 192 := by
 unfold Builtin.nextslicecap
 split
 ·omega
 ·split
  ·omega
  ·have := growBy_le n 4 c (by omega)
   omega
theorem small_facts {e : TypeId} {kd : IntKind} (he : P.underlying e = some (.int kd)) (h : smallT P e = true) :
  hasT P e = true /\ sizeT P e = 1 /\ (typeInfo e).run P w = .ok ((P.info? e).getD default) w /\ ((P.info? e).getD default).bytes <= 8 /\ ∃ zv,(zeroValue e).run P w = .ok zv w /\ zv.cells.size = 1 := by
 simp only [smallT,Bool.and_eq_true] at h
 obtain ⟨h1,h2,h3⟩ := h
 have hh := has_of_und he
 refine ⟨hh,Nat.eq_of_beq_eq_true h1,?_⟩
 have h2 := Nat.le_of_ble_eq_true h2
 unfold Program.bytesOf at h2
 obtain ⟨z,hz⟩ : ∃ z,zeroA P e = some [z] := by
  unfold oneZero at h3
  split at h3
  ·rename_i z hz; exact ⟨z,hz⟩
  ·simp at h3
 obtain ⟨zv,hzv,hzc,_⟩ := zero_sound (P:=P) (w:=w) (RT:=fun _ => none) (E:=⟨fun _ => none,fun _ => none⟩) hz
 unfold hasT at hh
 cases hi : P.info? e with
 | none => simp [hi] at hh
 | some i => exact ⟨by simp [typeInfo,hi],by simpa [hi] using h2,zv,hzv,by simpa using hzc.1⟩
def Stored (P : Program) (w : World) (base : Option Addr) (n : Nat) (zs : List Value) (w' : World) : Prop :=
 match base with
 | some a => (storeCells (a.add n) zs).run P w = .ok () w'
 | none => w' = w
theorem capA_some {Y : Type} {e : TypeId} {n : Nat} {k : Option Y} {y : Y} : capA P e n k = some y ↔ n <= mostE P e /\ k = some y := by
 unfold capA mostE
 split <;> rw [chk_some]
theorem append_run {t t2 : TypeId} {e e2 : TypeId} {kd : IntKind} {xs ys : List Int} {base : Option Addr} {cap : Nat} {u : Value} (hu : P.underlying t = some (.slice e))
  (hu2 : P.underlying t2 = some (.slice e2)) (he : P.underlying e = some (.int kd)) (hsm : smallT P e = true) (hx : Holds w kd xs (.slice base xs.length cap)) (hy : Holds w kd ys u)
  (hb : xs.length + ys.length <= mostE P e) (o : TypeId) :
  (xs.length + ys.length <= cap /\ ∀ w',Stored P w base xs.length (ys.map (Value.int kd)) w' ->
   (Builtin.append_ #[t,t2] o #[.slice base xs.length cap,u]).run P w = .ok (.slice base (xs.length + ys.length) cap) w') \/
  (cap < xs.length + ys.length /\ ∃ newCap vs,xs.length + ys.length <= newCap /\ vs.size = newCap /\ (∀ j,j < (xs ++ ys).length -> vs[j]? = some (.int kd ((xs ++ ys).getD j 0))) /\
   (Builtin.append_ #[t,t2] o #[.slice base xs.length cap,u]).run P w = .ok (.slice (some ⟨w.heap.size,0,none⟩) (xs.length + ys.length) newCap) (w.drew.alloc (.cells vs e))) := by
 obtain ⟨hh,hsz,hti,hbytes,zv,hzv,hz1⟩ := small_facts (w:=w) he hsm
 obtain ⟨_,_,hti2,_,_,_,_⟩ := small_facts (w:=w.drew) he hsm
 have hzv2 : (zeroValue e).run P w.drew = .ok zv w.drew := by
  obtain ⟨_,_,_,_,zv2,h2,_⟩ := small_facts (w:=w.drew) he hsm
  have : zv2 = zv := by
   unfold hasT at hh
   cases hi : P.info? e with
   | none => simp [hi] at hh
   | some i =>
    cases hz : i.zero with
    | none => simp [zeroValue,typeInfo,hi,hz] at h2
    | some z =>
     simp [zeroValue,typeInfo,hi,hz] at h2 hzv
     rw [<- h2,<- hzv]
  rw [h2,this]
 have hlen : (Builtin.lenOf u).run P w = .ok ys.length w := by
  obtain ⟨b,c,rfl,_⟩ := hy
  rfl
 have hfy : (Builtin.firstCells 1 ys.length u).run P w = .ok (ys.map (Value.int kd)).toArray w := by
  have := first_run (P:=P) hy ys.length (Nat.le_refl _)
  rwa [List.take_length] at this
 have hbb : xs.length + ys.length <= 140737488351232 /\ (((P.info? e).getD default).bytes <= 1 \/ xs.length + ys.length <= 17592186043904) := by
  unfold mostE at hb
  split at hb
  ·rename_i h1
   have h1 := Nat.le_of_ble_eq_true h1
   unfold Program.bytesOf at h1
   refine ⟨hb,Or.inl ?_⟩
   cases hi : P.info? e with
   | none => unfold hasT at hh; simp [hi] at hh
   | some i => simpa [hi] using h1
  ·have h2 : most = 17592186043904 := rfl
   exact ⟨by omega,Or.inr (by omega)⟩
 by_cases hroom : xs.length + ys.length <= cap
 ·refine Or.inl ⟨hroom,fun w' hw' => ?_⟩
  cases base with
  | none =>
   simp only [Stored] at hw'
   subst hw'
   simp [Builtin.append_,run_und hu,run_und hu2,run_size hh,hsz,hlen,hfy,hroom]
  | some a =>
   simp only [Stored] at hw'
   simp [Builtin.append_,run_und hu,run_und hu2,run_size hh,hsz,hlen,hfy,hroom,hw']
 ·refine Or.inr ⟨by omega,?_⟩
  have hfx : (Builtin.firstCells 1 xs.length (.slice base xs.length cap)).run P w.drew = .ok (xs.map (Value.int kd)).toArray w.drew := by
   have := first_run (P:=P) (w:=w.drew) (kd:=kd) (xs:=xs) (u:=.slice base xs.length cap) hx xs.length (Nat.le_refl _)
   rwa [List.take_length] at this
  have hfy2 : (Builtin.firstCells 1 ys.length u).run P w.drew = .ok (ys.map (Value.int kd)).toArray w.drew := by
   have := first_run (P:=P) (w:=w.drew) (kd:=kd) (xs:=ys) (u:=u) hy ys.length (Nat.le_refl _)
   rwa [List.take_length] at this
  let q := Question.appendCap (xs.length + ys.length) cap e
  let nc := q.cut (w.tape w.drawn q)
  have hnc : xs.length + ys.length <= nc := by simp only [nc,q,Question.cut]; omega
  let vs : Array Value := (xs.map (Value.int kd)).toArray ++ (ys.map (Value.int kd)).toArray ++ Builtin.zeroCells zv.cells (nc - (xs.length + ys.length))
  have hvs : vs.size = nc := by simp [vs,Builtin.zeroCells,hz1]; omega
  refine ⟨nc,vs,hnc,hvs,fun j hj => ?_,?_⟩
  ·have hj' : j < xs.length + ys.length := by simpa using hj
   simp only [vs]
   rw [Array.getElem?_append_left (by simp; omega)]
   simp only [Array.getElem?_append,List.getElem?_toArray,List.size_toArray,List.length_map]
   by_cases h : j < xs.length
   ·rw [if_pos h]
    simp [List.getD_eq_getElem?_getD,h,List.getElem?_append_left h]
   ·rw [if_neg h]
    have : j - xs.length < ys.length := by omega
    simp [List.getD_eq_getElem?_getD,List.getElem?_append_right (Nat.le_of_not_lt h),this]
  ·have hbig : ¬ ((xs.length + ys.length : Nat) : Int) > IntKind.i64.max := by
    have h1 : IntKind.i64.max = 9223372036854775807 := rfl
    omega
   have hnext : ¬ Builtin.nextslicecap (xs.length + ys.length) cap * ((P.info? e).getD default).bytes > 2 ^ 48 := by
    have h1 := nextcap_le (n:=xs.length + ys.length) (c:=cap) (by omega)
    rcases hbb.2 with h2 | h2
    ·have h3 : Builtin.nextslicecap (xs.length + ys.length) cap * ((P.info? e).getD default).bytes <= (2 * (xs.length + ys.length) + 192) * 1 := Nat.mul_le_mul h1 h2
     omega
    ·have h3 : Builtin.nextslicecap (xs.length + ys.length) cap * ((P.info? e).getD default).bytes <= (2 * (xs.length + ys.length) + 192) * 8 := Nat.mul_le_mul h1 hbytes
     omega
   have hq : (Question.appendCap (xs.length + ys.length) cap e).forced = false := rfl
   have hch : (choose (.appendCap (xs.length + ys.length) cap e)).run P w = .ok nc w.drew := by
    simp only [run_choose,hq,Bool.false_eq_true,if_false]
    rfl
   have hti' : ∀ v : World,(typeInfo e).run P v = .ok ((P.info? e).getD default) v := fun v => (small_facts (w:=v) he hsm).2.2.1
   simp only [Builtin.append_,List.getElem?_toArray,List.getElem?_cons_zero,List.getElem?_cons_succ,Sem.run_bind,run_und hu,Result.andThen_ok,run_size hh,hsz,run_und hu2,Sem.run_pure,Bool.false_eq_true,if_false,hlen,hroom,hti',hbig,false_and,hnext,hch,run_askRoom,hfx,Bool.not_false,if_true,hfy2,hzv2,newRow,run_newObj]
   rfl
theorem zeroCells_int {kd : IntKind} {zv : Array Value} (h : zv = #[.int kd 0]) (n : Nat) : Builtin.zeroCells zv n = ((zeros n).map (Value.int kd)).toArray := by
 subst h
 simp only [Builtin.zeroCells,zeros]
 apply Array.ext
 ·simp
 ·intro i h1 h2
  simp [Nat.mod_one]
theorem zeroInt_facts {e : TypeId} {kd : IntKind} (hz : zeroInt P e kd = true) : ∀ w : World,∃ zv,(zeroValue e).run P w = .ok zv w /\ zv.cells = #[.int kd 0] := by
 intro w
 unfold zeroInt at hz
 split at hz
 ·rename_i k z hzz
  simp only [Bool.and_eq_true,eqK_iff,decide_eq_true_eq] at hz
  obtain ⟨rfl,rfl⟩ := hz
  obtain ⟨zv,hzr,hzc,hh⟩ := zero_sound (P:=P) (w:=w) (RT:=fun _ => none) (E:=⟨fun _ => none,fun _ => none⟩) hzz
  obtain ⟨hzs,hzi⟩ := ints_cells (kd:=kd) (l:=[0]) hzc
  simp at hzs
  have hz0 := hzi 0 (by simp)
  refine ⟨zv,hzr,?_⟩
  apply Array.ext
  ·simp [hzs]
  ·intro i h1 h2
   have : i = 0 := by simp at h2; omega
   subst this
   rw [Array.getElem?_eq_getElem h1] at hz0
   simpa using hz0
 ·simp at hz
theorem append_zero_run {t t2 : TypeId} {e : TypeId} {kd k2 k3 : IntKind} {xs : List Int} {base : Option Addr} {cap : Nat} {n : Int} (hu : P.underlying t = some (.slice e))
  (hu2 : P.underlying t2 = some (.int k2)) (he : P.underlying e = some (.int kd)) (hsm : smallT P e = true) (hzi : zeroInt P e kd = true) (hx : Holds w kd xs (.slice base xs.length cap))
  (hn0 : 0 <= n) (hn1 : n <= (most : Int)) (hb : xs.length + (zeros n.toNat).length <= most) (o : TypeId) :
  (xs.length + (zeros n.toNat).length <= cap /\ ∀ w',Stored P w base xs.length ((zeros n.toNat).map (Value.int kd)) w' ->
   (Builtin.append_ #[t,t2] o #[.slice base xs.length cap,.int k3 n]).run P w = .ok (.slice base (xs.length + (zeros n.toNat).length) cap) w') \/
  (cap < xs.length + (zeros n.toNat).length /\ ∃ newCap vs,xs.length + (zeros n.toNat).length <= newCap /\ vs.size = newCap /\ (∀ j,j < (xs ++ zeros n.toNat).length -> vs[j]? = some (.int kd ((xs ++ zeros n.toNat).getD j 0))) /\
   (Builtin.append_ #[t,t2] o #[.slice base xs.length cap,.int k3 n]).run P w = .ok (.slice (some ⟨w.heap.size,0,none⟩) (xs.length + (zeros n.toNat).length) newCap) (w.drew.alloc (.cells vs e))) := by
 obtain ⟨hh,hsz,hti,hbytes,_⟩ := small_facts (w:=w) he hsm
 obtain ⟨zv,hzv,hzc⟩ := zeroInt_facts hzi w
 have hzv2 : (zeroValue e).run P w.drew = .ok zv w.drew := by
  obtain ⟨zv2,h2,_⟩ := zeroInt_facts hzi w.drew
  have : zv2 = zv := by
   unfold hasT at hh
   cases hi : P.info? e with
   | none => simp [hi] at hh
   | some i =>
    cases hz : i.zero with
    | none => simp [zeroValue,typeInfo,hi,hz] at h2
    | some z =>
     simp [zeroValue,typeInfo,hi,hz] at h2 hzv
     rw [<- h2,<- hzv]
  rw [h2,this]
 have hlz : (zeros n.toNat).length = n.toNat := by simp [zeros]
 rw [hlz] at hb ⊢
 have hwl := wrap_small hn0 hn1
 have hm : (most : Int) = 17592186043904 := rfl
 have hneg : ¬ n < 0 := by omega
 have htl : ¬ (n * (((P.info? e).getD default).bytes : Int) > 2 ^ 48) := by
  have : n * (((P.info? e).getD default).bytes : Int) <= n * 8 := Int.mul_le_mul_of_nonneg_left (by omega) hn0
  omega
 have hti' : ∀ v : World,(typeInfo e).run P v = .ok ((P.info? e).getD default) v := fun v => (small_facts (w:=v) he hsm).2.2.1
 have happ : ∀ v : World,(zeroValue e).run P v = .ok zv v -> ((if n.toNat * 1 = 0 then pure #[] else do pure (Builtin.zeroCells (<- zeroValue e).cells n.toNat) : Sem (Array Value))).run P v = .ok (((zeros n.toNat).map (Value.int kd)).toArray) v := by
  intro v hv
  by_cases h0 : n.toNat * 1 = 0
  ·rw [if_pos h0]
   have : n.toNat = 0 := by omega
   simp [this,zeros]
  ·rw [if_neg h0]
   simp only [Sem.run_bind,hv,Result.andThen_ok,Sem.run_pure,zeroCells_int hzc]
 by_cases hroom : xs.length + n.toNat <= cap
 ·refine Or.inl ⟨hroom,fun w' hw' => ?_⟩
  cases base with
  | none =>
   simp only [Stored] at hw'
   subst hw'
   simp only [Builtin.append_,List.getElem?_toArray,List.getElem?_cons_zero,List.getElem?_cons_succ,Sem.run_bind,run_und hu,Result.andThen_ok,run_size hh,hsz,run_und hu2,Sem.run_pure,if_true,asInt,asIntOf,hwl,hneg,if_false,hti',htl,hroom,Bool.not_true,Bool.false_eq_true,happ _ hzv]
  | some a =>
   simp only [Stored] at hw'
   simp only [Builtin.append_,List.getElem?_toArray,List.getElem?_cons_zero,List.getElem?_cons_succ,Sem.run_bind,run_und hu,Result.andThen_ok,run_size hh,hsz,run_und hu2,Sem.run_pure,if_true,asInt,asIntOf,hwl,hneg,if_false,hti',htl,hroom,Bool.not_true,Bool.false_eq_true,happ _ hzv]
   simp only [Nat.mul_one,hw',Result.andThen_ok]
 ·refine Or.inr ⟨by omega,?_⟩
  have hfx : (Builtin.firstCells 1 xs.length (.slice base xs.length cap)).run P w.drew = .ok (xs.map (Value.int kd)).toArray w.drew := by
   have := first_run (P:=P) (w:=w.drew) (kd:=kd) (xs:=xs) (u:=.slice base xs.length cap) hx xs.length (Nat.le_refl _)
   rwa [List.take_length] at this
  let q := Question.appendCap (xs.length + n.toNat) cap e
  let nc := q.cut (w.tape w.drawn q)
  have hnc : xs.length + n.toNat <= nc := by simp only [nc,q,Question.cut]; omega
  let vs : Array Value := (xs.map (Value.int kd)).toArray ++ ((zeros n.toNat).map (Value.int kd)).toArray ++ Builtin.zeroCells zv.cells (nc - (xs.length + n.toNat))
  have hvs : vs.size = nc := by simp [vs,zeroCells_int hzc,zeros]; omega
  refine ⟨nc,vs,hnc,hvs,fun j hj => ?_,?_⟩
  ·have hj' : j < xs.length + n.toNat := by simpa [zeros] using hj
   simp only [vs]
   rw [Array.getElem?_append_left (by simp [zeros]; omega)]
   simp only [Array.getElem?_append,List.getElem?_toArray,List.size_toArray,List.length_map]
   by_cases h : j < xs.length
   ·rw [if_pos h]
    simp [List.getD_eq_getElem?_getD,h,List.getElem?_append_left h]
   ·rw [if_neg h]
    have : j - xs.length < (zeros n.toNat).length := by rw [hlz]; omega
    simp [List.getD_eq_getElem?_getD,List.getElem?_append_right (Nat.le_of_not_lt h),this]
  ·have hbig : ¬ ((xs.length + n.toNat : Nat) : Int) > IntKind.i64.max := by
    have h1 : IntKind.i64.max = 9223372036854775807 := rfl
    have h2 : most = 17592186043904 := rfl
    omega
   have hnext : ¬ Builtin.nextslicecap (xs.length + n.toNat) cap * ((P.info? e).getD default).bytes > 2 ^ 48 := by
    have h1 := nextcap_le (n:=xs.length + n.toNat) (c:=cap) (by omega)
    have h2 : most = 17592186043904 := rfl
    have h3 : Builtin.nextslicecap (xs.length + n.toNat) cap * ((P.info? e).getD default).bytes <= (2 * (xs.length + n.toNat) + 192) * 8 := Nat.mul_le_mul h1 hbytes
    omega
   have hq : (Question.appendCap (xs.length + n.toNat) cap e).forced = false := rfl
   have hch : (choose (.appendCap (xs.length + n.toNat) cap e)).run P w = .ok nc w.drew := by
    simp only [run_choose,hq,Bool.false_eq_true,if_false]
    rfl
   simp only [Builtin.append_,List.getElem?_toArray,List.getElem?_cons_zero,List.getElem?_cons_succ,Sem.run_bind,run_und hu,Result.andThen_ok,run_size hh,hsz,run_und hu2,Sem.run_pure,if_true,asInt,asIntOf,hwl,hneg,if_false,hti',htl,hroom,Bool.not_true,Bool.false_eq_true,hbig,false_and,hnext,hch,run_askRoom,hfx,happ _ hzv2,hzv2,newRow,run_newObj]
   rfl
theorem cont_sound {kd : IntKind} {x : AV} {u : Value} {k : List Int -> Option Y} (hs : Sim RT E H fp w) (hx : RV RT E x u) (hk : contA H kd x k = some y) :
  ∃ ys,k ys = some y /\ Holds w kd ys u := by
 cases x with
 | «at» b =>
  obtain ⟨ys,l,h1,h2,_⟩ := ro_sound (k:=fun xs _ => k xs) hs hx hk
  exact ⟨ys,h1,h2⟩
 | _ => simp [contA] at hk
theorem grown_sound {nx : Nat} {kd : IntKind} {zs : List Int} {vs : Array Value} {e : TypeId} {nn : Bool} {newCap : Nat} {H0 : Heap} (hs : Sim RT E H fp w) (hf : Fresh E nx)
  (hsub : ∀ id b,H id = some b -> H0 id = some b) (hcap : zs.length <= newCap) (hvs : vs.size = newCap) (hc : ∀ j,j < zs.length -> vs[j]? = some (.int kd (zs.getD j 0))) :
  ∃ E' fp',RV RT E' (.at (.full nx nn)) (.slice (some ⟨w.heap.size,0,none⟩) zs.length newCap) /\ Sim RT E' (putH H nx (some (.ints true kd zs))) fp' (w.drew.alloc (.cells vs e)) /\
   Step E H0 fp w nx E' (putH H nx (some (.ints true kd zs))) fp' (w.drew.alloc (.cells vs e)) (nx + 1) := by
 have hd := hs.frm (Frm.drew w (fun _ => False)) (fun _ _ h => h) (fun _ _ _ h => h)
 obtain ⟨g1,g2⟩ := newInts (cap:=newCap) (k:=kd) (xs:=zs) (vs:=vs) (e:=e) hd hf hvs hcap hc
 refine ⟨_,_,?_,g1,⟨g2.le,?_,?_,g2.nx,g2.fresh,fun ad v h => (g2.ext ad v h).imp (fun h => h) (Or.imp (fun h => h) fun ⟨id,b,hb,hx⟩ => ⟨id,b,hsub _ _ hb,hx⟩)⟩⟩
 ·exact R.full (I:=⟨w.heap.size,0,zs.length,newCap,1,true⟩) (base:=some ⟨w.heap.size,0,none⟩) (by simp [putI]) (Or.inl rfl) (fun _ => rfl) hcap (fun _ => rfl)
 ·exact (Frm.drew w _).trans (g2.frm.mono (O' := OwnAll H0 fp) fun x ⟨id,b,hb,hx⟩ => ⟨id,b,hsub _ _ hb,hx⟩) fun x hx _ => hx
 ·intro x hx hlt
  obtain ⟨id,b,hb,hfx⟩ := g2.own x hx hlt
  exact ⟨id,b,hsub _ _ hb,hfx⟩
theorem append_core {nx id : Nat} {nn : Bool} {e : TypeId} {kd : IntKind} {xs ys : List Int} {f : Value -> Sem Value} {ux : Value} {k : AV -> Heap -> Nat -> Option Y} (hs : Sim RT E H fp w) (hf : Fresh E nx)
  (hb : H id = some (.ints true kd xs)) (hx : R RT E (.full id nn) ux)
  (hrunA : ∀ {base : Option Addr} {cap : Nat},Holds w kd xs (.slice base xs.length cap) ->
   (xs.length + ys.length <= cap /\ ∀ w',Stored P w base xs.length (ys.map (Value.int kd)) w' ->
    (f (.slice base xs.length cap)).run P w = .ok (.slice base (xs.length + ys.length) cap) w') \/
   (cap < xs.length + ys.length /\ ∃ newCap vs,xs.length + ys.length <= newCap /\ vs.size = newCap /\ (∀ j,j < (xs ++ ys).length -> vs[j]? = some (.int kd ((xs ++ ys).getD j 0))) /\
    (f (.slice base xs.length cap)).run P w = .ok (.slice (some ⟨w.heap.size,0,none⟩) (xs.length + ys.length) newCap) (w.drew.alloc (.cells vs e))))
  (hk : k (.at (.full nx nn)) (putH (putH H id none) nx (some (.ints true kd (xs ++ ys)))) (nx + 1) = some y) :
  ∃ v H' nx' E' fp' u w',k v H' nx' = some y /\ (f ux).run P w = .ok u w' /\ RV RT E' v u /\ Sim RT E' H' fp' w' /\ Step E H fp w nx E' H' fp' w' nx' := by
 cases hx with
 | full hI hbase hn hcc hgg =>
  rename_i cap I base
  obtain ⟨J,hJ,ok⟩ := hs.blk _ _ hb
  rw [hI] at hJ
  obtain rfl := Option.some.inj hJ
  obtain ⟨hw,hnn,hgr,hc⟩ := ok.kind
  have hgr := hgr rfl
  have hcap := ok.cap
  obtain rfl := hgg hgr
  have hsk : Sim RT E (putH H id none) fp w := hs.sub kill_sub
  have hHx : Holds w kd xs (.slice base xs.length I.cap) := ⟨base,I.cap,rfl,by omega,fun i hi => by
   rcases hbase with hbase | ⟨h0,_⟩
   ·exact ⟨_,hbase,rfl,hc i hi⟩
   ·omega⟩
  rw [hnn]
  rcases hrunA hHx with ⟨hr,hrun⟩ | ⟨hlt,newCap,vs,h1,h2,h3,h4⟩
  ·-- in place
   let J : Info := ⟨I.cb,I.coff,(xs ++ ys).length,I.cap,1,true⟩
   have hJI : ∀ x,Own J x ↔ fp id x := by
    intro x
    rw [ok.own x]
    simp only [Own,J,hgr,if_true,hw]
   have hlive : ∀ j,j < ys.length -> fp id (I.cb,I.coff + (xs.length + j)) := by
    intro j hj
    refine (ok.own _).2 ⟨rfl,by simp,?_⟩
    simp only [hgr,if_true,hw]
    omega
   have hdead : ∀ x,OwnAll (putH H id none) fp x -> ¬ fp id x := by
    rintro x ⟨id',b',hb',hx'⟩ hfx
    rw [putH_eq] at hb'
    split at hb'
    ·simp at hb'
    ·rename_i hne
     exact hs.disj _ _ _ _ x (kill_sub id' b' (by rw [putH_eq,if_neg hne]; exact hb')) hb hne hx' hfx
   have key : ∀ w',Frm w (fun x => x.1 = I.cb /\ I.coff + xs.length <= x.2 /\ x.2 < I.coff + xs.length + ys.length) w' ->
     (∀ j,j < ys.length -> w'.cell? ⟨I.cb,I.coff + (xs.length + j),none⟩ = some (.int kd (ys.getD j 0))) ->
     Sim RT (putI E nx J) (putH (putH H id none) nx (some (.ints true kd (xs ++ ys)))) (putFp fp nx (Own J)) w' /\
     Step E H fp w nx (putI E nx J) (putH (putH H id none) nx (some (.ints true kd (xs ++ ys)))) (putFp fp nx (Own J)) w' (nx + 1) := by
    intro w' hF hnew
    have hOf : ∀ x : Nat × Nat,(x.1 = I.cb /\ I.coff + xs.length <= x.2 /\ x.2 < I.coff + xs.length + ys.length) -> fp id x := by
     rintro ⟨x1,x2⟩ ⟨rfl,hx2,hx3⟩
     have := hlive (x2 - I.coff - xs.length) (by simp only at hx3; omega)
     rw [show I.coff + (xs.length + (x2 - I.coff - xs.length)) = x2 by simp only at hx2; omega] at this
     exact this
    refine ⟨Sim.add hsk (hf _ (Nat.le_refl _)) hF (fun x hx hO => hdead x hx (hOf x hO)) (fun a v ha hO => (hs.ro a v ha).2.2 id _ hb (hOf _ hO)) ⟨fun _ => Iff.rfl,?_,fun x hx => ?_,rfl,rfl,fun _ => rfl,fun j hj => ?_⟩
     (fun x hx => ⟨fun id' b' hb' hx' => hdead x ⟨id',b',hb',hx'⟩ ((hJI x).1 hx),fun a v ha he => (hs.ro a v ha).2.2 id _ hb (by rw [he]; exact (hJI x).1 hx)⟩),
     Step.add hf kill_sub (hF.mono fun x hx => ⟨id,_,hb,hOf x hx⟩) (fun x hx _ => ⟨id,_,hb,(hJI x).1 hx⟩)⟩
    ·simp only [J,List.length_append]; omega
    ·obtain ⟨v,hv,hz⟩ := ok.live x ((hJI x).1 hx)
     obtain ⟨v',hv'⟩ := hF.live hv
     exact ⟨v',hv',by rw [hF.frozen (World.block_lt_of_cell? _ _ hv)]; exact hz⟩
    ·simp only [J]
     by_cases hjx : j < xs.length
     ·rw [hF.cell (hc j hjx) (by simp; omega)]
      simp [List.getD_eq_getElem?_getD,List.getElem?_append_left hjx]
     ·have hj' : j < xs.length + ys.length := by simpa using hj
      have := hnew (j - xs.length) (by omega)
      rw [show xs.length + (j - xs.length) = j by omega] at this
      rw [this]
      simp [List.getD_eq_getElem?_getD,List.getElem?_append_right (Nat.le_of_not_lt hjx)]
   have hres : ∀ w',Sim RT (putI E nx J) (putH (putH H id none) nx (some (.ints true kd (xs ++ ys)))) (putFp fp nx (Own J)) w' ->
     RV RT (putI E nx J) (.at (.full nx nn)) (.slice base (xs.length + ys.length) I.cap) := by
    intro w' _
    have := R.full (RT:=RT) (E:=putI E nx J) (id:=nx) (nn:=nn) (I:=J) (base:=base) (cap:=I.cap) (by simp [putI]) (by
     rcases hbase with hbase | ⟨h0,h1⟩
     ·exact Or.inl hbase
     ·have := h1 hgr
      refine Or.inr ⟨?_,fun _ => this⟩; simp only [J,List.length_append]; omega) hn (by simp only [J,List.length_append]; omega) (fun _ => rfl)
    simp only [J,List.length_append] at this ⊢
    exact this
   rcases hbase with hbase | ⟨h0,hc0⟩
   ·subst hbase
    obtain ⟨w',s1,s2,s3⟩ := storeCells_run (P:=P) (b:=I.cb) (o:=I.coff + xs.length) (ys.map (Value.int kd)) 0 w (fun v hv => by
     obtain ⟨n,_,rfl⟩ := List.mem_map.1 hv; rfl) (fun j hj => by
     have := ok.live _ (hlive j (by simpa using hj))
     simp only [Nat.zero_add]
     rw [<- Nat.add_assoc] at this
     exact this)
    have hrun := hrun w' (by simp only [Stored,add_lit]; exact s1)
    obtain ⟨k1,k2⟩ := key w' (by simpa using s2) (fun j hj => by
     have := s3 j (by simpa using hj)
     rw [Nat.zero_add,ints_map_get kd ys hj] at this
     rw [<- Nat.add_assoc]
     exact this)
    exact ⟨_,_,_,_,_,_,_,hk,hrun,hres w' k1,k1,k2⟩
   ·have hc0 := hc0 hgr
    have hy0 : ys = [] := by
     have : ys.length = 0 := by omega
     simpa using this
    subst hy0
    have hrun := hrun w (by
     cases base with
     | none => rfl
     | some a => rfl)
    obtain ⟨k1,k2⟩ := key w (Frm.refl w _) (fun j hj => by simp at hj)
    exact ⟨_,_,_,_,_,_,_,hk,hrun,hres w k1,k1,k2⟩
  ·rw [<- List.length_append] at h1 h4
   obtain ⟨E',fp',g1,g2,g3⟩ := grown_sound (H0:=H) (nx:=nx) (nn:=nn) (e:=e) hsk hf kill_sub h1 h2 h3
   exact ⟨_,_,_,E',fp',_,_,hk,h4,g1,g2,g3⟩
theorem append_sound {nx : Nat} {t t2 o : TypeId} {x z : AV} {ux uz : Value} {k : AV -> Heap -> Nat -> Option Y} (hs : Sim RT E H fp w) (hf : Fresh E nx)
  (hx : RV RT E x ux) (hz : RV RT E z uz) (hk : appendA P H nx t t2 x z k = some y) :
  ∃ v H' nx' E' fp' u w',k v H' nx' = some y /\ (Builtin.append_ #[t,t2] o #[ux,uz]).run P w = .ok u w' /\ RV RT E' v u /\ Sim RT E' H' fp' w' /\ Step E H fp w nx E' H' fp' w' nx' := by
 unfold appendA at hk
 split at hk
 ·rename_i e k2 hu hu2
  split at hk
  ·rename_i kd id nn k3 n he
   split at hk
   ·rename_i kd' xs hb
    rw [gate_some,chk_some,chk_some] at hk
    obtain ⟨hg,⟨hn0,hn1⟩,hbd,hk⟩ := hk
    simp only [Bool.and_eq_true,eqK_iff] at hg
    obtain ⟨hsm,hzi,rfl⟩ := hg
    have hz' := R.int_inv hz
    subst hz'
    have hlz : (zeros n.toNat).length = n.toNat := by simp [zeros]
    exact append_core (f:=fun u => Builtin.append_ #[t,t2] o #[u,.int k3 n]) hs hf hb hx (fun hHx => append_zero_run (P:=P) (w:=w) hu hu2 he hsm hzi hHx hn0 hn1 (by rw [hlz]; exact hbd) o) hk
   ·simp at hk
  ·simp at hk
 ·rename_i e e2 hu hu2
  split at hk
  ·rename_i kd he
   rw [gate_some] at hk
   obtain ⟨hsm,hk⟩ := hk
   obtain ⟨ys,hk,hy⟩ := cont_sound hs hz hk
   rw [capA_some] at hk
   obtain ⟨hb,hk⟩ := hk
   have hx' : ux = .slice none 0 0 := by cases hx; rfl
   subst hx'
   have hHx : Holds w kd [] (.slice none 0 0) := ⟨none,0,rfl,Nat.le_refl _,fun i hi => by simp at hi⟩
   rcases append_run (P:=P) (w:=w) hu hu2 he hsm hHx hy (by simpa using hb) o with ⟨hr,hrun⟩ | ⟨hlt,newCap,vs,h1,h2,h3,h4⟩
   ·simp only [List.length_nil,Nat.zero_add] at hr
    have hys : ys = [] := by simpa using hr
    subst hys
    have hrun := hrun w rfl
    simp only [List.length_nil,Nat.zero_add] at hrun
    have hadd := Sim.add (nx:=nx) (b:=.ints true kd []) (I:=⟨0,0,0,0,1,true⟩) (w' := w) (O:=fun _ => False) hs (hf _ (Nat.le_refl _)) (Frm.refl w _) (fun _ _ h => h) (fun _ _ _ h => h)
     ⟨fun _ => Iff.rfl,Nat.le_refl _,fun x hx => by obtain ⟨_,_,h⟩ := hx; simp at h,rfl,rfl,fun _ => rfl,fun j hj => by simp at hj⟩
     (fun x hx => by obtain ⟨_,_,h⟩ := hx; simp at h)
    refine ⟨_,_,_,_,_,_,_,hk,hrun,?_,hadd,Step.add hf (fun _ _ h => h) (Frm.refl w _) (fun x hx => by obtain ⟨_,_,h⟩ := hx; simp at h)⟩
    exact R.full (I:=⟨0,0,0,0,1,true⟩) (by simp [putI]) (Or.inr ⟨rfl,fun _ => rfl⟩) (fun h => by simp at h) (Nat.le_refl _) (fun _ => rfl)
   ·simp only [List.length_nil,Nat.zero_add,List.nil_append] at h1 h3 h4
    obtain ⟨E',fp',g1,g2,g3⟩ := grown_sound (H0:=H) (nx:=nx) (nn:=false) (e:=e) hs hf (fun _ _ h => h) h1 h2 h3
    exact ⟨_,_,_,E',fp',_,_,hk,h4,g1,g2,g3⟩
  ·rename_i kd he
   rw [gate_some] at hk
   obtain ⟨hsm,hk⟩ := hk
   obtain ⟨ys,hk,hy⟩ := cont_sound hs hz hk
   rw [capA_some] at hk
   obtain ⟨hb,hk⟩ := hk
   obtain ⟨base,hx'⟩ : ∃ base,ux = .slice base 0 0 := by cases hx with | empt base => exact ⟨base,rfl⟩
   subst hx'
   have hHx : Holds w kd [] (.slice base 0 0) := ⟨base,0,rfl,Nat.le_refl _,fun i hi => by simp at hi⟩
   rcases append_run (P:=P) (w:=w) hu hu2 he hsm hHx hy (by simpa using hb) o with ⟨hr,hrun⟩ | ⟨hlt,newCap,vs,h1,h2,h3,h4⟩
   ·simp only [List.length_nil,Nat.zero_add] at hr
    have hys : ys = [] := by simpa using hr
    subst hys
    have hrun := hrun w (by cases base <;> rfl)
    simp only [List.length_nil,Nat.zero_add] at hrun
    have hadd := Sim.add (nx:=nx) (b:=.ints true kd []) (I:=⟨0,0,0,0,1,true⟩) (w' := w) (O:=fun _ => False) hs (hf _ (Nat.le_refl _)) (Frm.refl w _) (fun _ _ h => h) (fun _ _ _ h => h)
     ⟨fun _ => Iff.rfl,Nat.le_refl _,fun x hx => by obtain ⟨_,_,h⟩ := hx; simp at h,rfl,rfl,fun _ => rfl,fun j hj => by simp at hj⟩
     (fun x hx => by obtain ⟨_,_,h⟩ := hx; simp at h)
    refine ⟨_,_,_,_,_,_,_,hk,hrun,?_,hadd,Step.add hf (fun _ _ h => h) (Frm.refl w _) (fun x hx => by obtain ⟨_,_,h⟩ := hx; simp at h)⟩
    exact R.full (I:=⟨0,0,0,0,1,true⟩) (by simp [putI]) (Or.inr ⟨rfl,fun _ => rfl⟩) (fun h => by simp at h) (Nat.le_refl _) (fun _ => rfl)
   ·simp only [List.length_nil,Nat.zero_add,List.nil_append] at h1 h3 h4
    obtain ⟨E',fp',g1,g2,g3⟩ := grown_sound (H0:=H) (nx:=nx) (nn:=false) (e:=e) hs hf (fun _ _ h => h) h1 h2 h3
    exact ⟨_,_,_,E',fp',_,_,hk,h4,g1,g2,g3⟩
  ·rename_i kd id nn he
   split at hk
   ·rename_i kd' xs hb
    rw [gate_some] at hk
    obtain ⟨hg,hk⟩ := hk
    simp only [Bool.and_eq_true,eqK_iff] at hg
    obtain ⟨hsm,rfl⟩ := hg
    obtain ⟨ys,hk,hy⟩ := cont_sound hs hz hk
    rw [capA_some] at hk
    obtain ⟨hbd,hk⟩ := hk
    exact append_core (f:=fun u => Builtin.append_ #[t,t2] o #[u,uz]) hs hf hb hx (fun hHx => append_run (P:=P) (w:=w) hu hu2 he hsm hHx hy hbd o) hk
   ·simp at hk
  ·simp at hk
 ·simp at hk
theorem copy_run {t : TypeId} {e : TypeId} {kd kd0 : IntKind} {ys : List Int} {base : Option Addr} {dl cap : Nat} {u : Value} {w' : World} (hu : P.underlying t = some (.slice e))
  (he : P.underlying e = some (.int kd0)) (hsm : smallT P e = true) (hy : Holds w kd ys u) (o : TypeId) (ts : Array TypeId) (ht : ts[0]? = some t)
  (hw' : match base with | some a => (storeCells a ((ys.take (min ys.length dl)).map (Value.int kd))).run P w = .ok () w' | none => w' = w) :
  (Builtin.copy_ ts o #[.slice base dl cap,u]).run P w = .ok (.int .i64 ((min ys.length dl : Nat) : Int)) w' := by
 obtain ⟨hh,hsz,_⟩ := small_facts (w:=w) he hsm
 have hlen : (Builtin.lenOf u).run P w = .ok ys.length w := by
  obtain ⟨b,c,rfl,_⟩ := hy
  rfl
 have hf := first_run (P:=P) hy (min ys.length dl) (Nat.min_le_left _ _)
 have hmin : Nat.min ys.length dl = min ys.length dl := rfl
 cases base with
 | none =>
  simp only at hw'
  subst hw'
  simp only [Builtin.copy_,ht,List.getElem?_toArray,List.getElem?_cons_zero,List.getElem?_cons_succ,Sem.run_bind,run_und hu,Result.andThen_ok,hlen,run_size hh,hsz,hmin,hf,Sem.run_pure,goInt]
 | some a =>
  simp only at hw'
  simp only [Builtin.copy_,ht,List.getElem?_toArray,List.getElem?_cons_zero,List.getElem?_cons_succ,Sem.run_bind,run_und hu,Result.andThen_ok,hlen,run_size hh,hsz,hmin,hf,hw',Sem.run_pure,goInt]
theorem copy_sound {nx : Nat} {t o : TypeId} {d z : AV} {ud uz : Value} {k : AV -> Heap -> Option Y} (hs : Sim RT E H fp w) (hf : Fresh E nx)
  (hd : RV RT E d ud) (hz : RV RT E z uz) (hk : copyA P H t d z k = some y) (ts : Array TypeId) (ht : ts[0]? = some t) :
  ∃ v H' u w',k v H' = some y /\ (Builtin.copy_ ts o #[ud,uz]).run P w = .ok u w' /\ RV RT E v u /\ Sim RT E H' fp w' /\ Step E H fp w nx E H' fp w' nx := by
 have hint : ∀ {e},isIntT P e = true -> ∃ kd',P.underlying e = some (.int kd') := by
  intro e h
  unfold isIntT at h
  split at h
  ·rename_i kd' h'; exact ⟨kd',h'⟩
  ·simp at h
 have htake : ∀ (ys : List Int) (n : Nat),ys.take (min ys.length n) = ys.take n := by
  intro ys n
  rw [Nat.min_comm,<- List.take_take,List.take_length]
 unfold copyA at hk
 split at hk
 ·rename_i e id nn hu
  split at hk
  ·rename_i g kd xs hb
   rw [gate_some] at hk
   obtain ⟨hg,hk⟩ := hk
   simp only [Bool.and_eq_true] at hg
   obtain ⟨hsm,hi⟩ := hg
   obtain ⟨kd',he⟩ := hint hi
   obtain ⟨ys,hk,hy⟩ := cont_sound hs hz hk
   cases hd with
   | full hI hbase hn hcc hgg =>
    rename_i cap I base
    obtain ⟨J,hJ,ok⟩ := hs.blk _ _ hb
    rw [hI] at hJ
    obtain rfl := Option.some.inj hJ
    obtain ⟨hw,hnn,hgr,hc⟩ := ok.kind
    rw [hnn]
    obtain ⟨w',s1,s2,s3⟩ := patch_sound (kd' := kd) (zs:=ys.take (min ys.length xs.length)) (lo:=0) hs hf hb hI (Or.inr rfl) (by simp; omega) P
    have hz2 : xs.take 0 ++ (ys.take (min ys.length xs.length) ++ xs.drop (0 + (ys.take (min ys.length xs.length)).length)) = ys.take xs.length ++ xs.drop (min ys.length xs.length) := by
     rw [List.take_zero,List.nil_append,Nat.zero_add,List.length_take,htake,Nat.min_eq_left (Nat.min_le_left _ _)]
    rw [hz2] at s2 s3
    by_cases h0 : xs.length = 0
    ·have hxs : xs = [] := by simpa using h0
     subst hxs
     refine ⟨_,_,_,w,hk,copy_run hu he hsm hy o ts ht ?_,R.int _ _,?_,?_⟩
     ·cases base with
      | none => rfl
      | some a => simp [storeCells]
     ·have : ys.take ([] : List Int).length ++ ([] : List Int).drop (min ys.length ([] : List Int).length) = [] := by simp
      rw [this]
      exact hs.write hb hI (Frm.refl w (fun _ => False)) (fun _ h => h.elim) ok
     ·exact Step.same hf (Frm.refl w _) (put_some hb)
    ·have hbase' : base = some ⟨I.cb,I.coff,none⟩ := by
      rcases hbase with hbase | ⟨h1,_⟩
      ·exact hbase
      ·omega
     subst hbase'
     exact ⟨_,_,_,w',hk,copy_run hu he hsm hy o ts ht s1,R.int _ _,s2,s3⟩
  ·simp at hk
 ·rename_i e id lo n hu
  split at hk
  ·rename_i g kd xs hb
   rw [gate_some] at hk
   obtain ⟨hg,hk⟩ := hk
   simp only [Bool.and_eq_true] at hg
   obtain ⟨hsm,hi⟩ := hg
   obtain ⟨kd',he⟩ := hint hi
   obtain ⟨ys,hk,hy⟩ := cont_sound hs hz hk
   rw [chk_some] at hk
   obtain ⟨hln,hk⟩ := hk
   cases hd with
   | sub hI hww hl hcap hbase =>
    rename_i cap I base
    obtain ⟨J,hJ,ok⟩ := hs.blk _ _ hb
    rw [hI] at hJ
    obtain rfl := Option.some.inj hJ
    obtain ⟨hw,hnn,hgr,hc⟩ := ok.kind
    obtain ⟨w',s1,s2,s3⟩ := patch_sound (kd' := kd) (zs:=ys.take (min ys.length n)) (lo:=lo) hs hf hb hI (Or.inr rfl) (by simp; omega) P
    have hz2 : xs.take lo ++ (ys.take (min ys.length n) ++ xs.drop (lo + (ys.take (min ys.length n)).length)) = xs.take lo ++ (ys.take n ++ xs.drop (lo + min ys.length n)) := by
     rw [List.length_take,htake,Nat.min_eq_left (Nat.min_le_left _ _)]
    rw [hz2] at s2 s3
    by_cases h0 : n = 0
    ·subst h0
     refine ⟨_,_,_,w,hk,copy_run hu he hsm hy o ts ht ?_,R.int _ _,?_,?_⟩
     ·cases base with
      | none => rfl
      | some a => simp [storeCells]
     ·have : xs.take lo ++ (ys.take 0 ++ xs.drop (lo + min ys.length 0)) = xs := by simp
      rw [this]
      exact hs.write hb hI (Frm.refl w (fun _ => False)) (fun _ h => h.elim) ok
     ·exact Step.same hf (Frm.refl w _) (put_some hb)
    ·have hbase' : base = some ⟨I.cb,I.coff + lo * I.w,none⟩ := by
      rcases hbase with hbase | h1
      ·exact hbase
      ·omega
     subst hbase'
     rw [hw,Nat.mul_one]
     exact ⟨_,_,_,w',hk,copy_run hu he hsm hy o ts ht s1,R.int _ _,s2,s3⟩
  ·simp at hk
 ·simp at hk
theorem clear_sound {nx : Nat} {t o : TypeId} {d : AV} {ud : Value} {k : Heap -> Option Y} (hs : Sim RT E H fp w) (hf : Fresh E nx)
  (hd : RV RT E d ud) (hk : clearA P H t d k = some y) (ts : Array TypeId) (ht : ts[0]? = some t) :
  ∃ H' u w',k H' = some y /\ (Builtin.clear_ ts o #[ud]).run P w = .ok u w' /\ Sim RT E H' fp w' /\ Step E H fp w nx E H' fp w' nx := by
 unfold clearA at hk
 split at hk
 ·rename_i e id nn hu
  split at hk
  ·rename_i g kd xs hb
   rw [gate_some] at hk
   obtain ⟨hz,hk⟩ := hk
   obtain ⟨zv,hzr,hzc⟩ := zeroInt_facts hz w
   have hd' : R RT E (.full id nn) ud := hd
   obtain ⟨I',hI',ok⟩ := hs.blk _ _ hb
   obtain ⟨hw,hn,hgr,hc⟩ := ok.kind
   cases hd' with
   | full hI hbase hn' hc' hg =>
    rename_i cap I base
    rw [hI] at hI'
    obtain rfl := Option.some.inj hI'
    by_cases h0 : I.n = 0
    ·have hx0 : xs.length = 0 := by omega
     have hx : xs = [] := List.length_eq_zero_iff.1 hx0
     subst hx
     have hsame : putH H id (some (.ints g kd (zeros ([] : List Int).length))) = H := by
      funext j
      rw [putH_eq]
      split
      ·rename_i hj; subst hj; exact hb.symm
      ·rfl
     rw [hsame] at hk
     refine ⟨_,.tuple #[],w,hk,?_,hs,.refl hf⟩
     rw [h0]
     cases base <;> simp [Builtin.clear_,ht,run_und hu]
    ·have hb1 : base = some ⟨I.cb,I.coff,none⟩ := by
      rcases hbase with h | ⟨h,_⟩
      ·exact h
      ·omega
     subst hb1
     have hzl : (zeros xs.length).length = xs.length := by simp [zeros]
     obtain ⟨w',h1,h2,h3⟩ := patch_sound (zs:=zeros xs.length) (kd' := kd) (lo:=0) hs hf hb hI (Or.inr rfl) (by rw [hzl]; omega) P
     have he : xs.take 0 ++ (zeros xs.length ++ xs.drop (0 + (zeros xs.length).length)) = zeros xs.length := by rw [hzl]; simp
     rw [he] at h2 h3
     refine ⟨_,.tuple #[],w',hk,?_,h2,h3⟩
     have hcells : (Builtin.zeroCells zv.cells I.n).toList = (zeros xs.length).map (Value.int kd) := by
      rw [hn,zeroCells_int hzc]
     rw [Nat.add_zero] at h1
     obtain ⟨m,hm⟩ : ∃ m,I.n = m + 1 := ⟨I.n - 1,by omega⟩
     rw [hm] at hcells ⊢
     simp only [Builtin.clear_,ht,List.getElem?_toArray,List.getElem?_cons_zero,Sem.run_bind,run_und hu,Result.andThen_ok,hzr,hcells,h1,Sem.run_pure]
  ·simp at hk
 ·simp at hk
theorem lit_sound {nx : Nat} {o : Oper} {k : AV -> Option Y} (hs : Sim RT E H fp w) (hf : Fresh E nx) (hF : RF RT E F a) (hk : evLit P F o.op k = some y) :
  ∃ v E' u w',k v = some y /\ (execOp a.eval o).run P w = .ok (.value u) w' /\ RV RT E' v u /\ Sim RT E' H fp w' /\ Step E H fp w nx E' H fp w' nx := by
 unfold evLit at hk
 split at hk
 ·rename_i t n parts ho
  split at hk
  ·rename_i e hu
   split at hk
   ·rename_i z hz
    split at hk
    ·rename_i cs hfill
     split at hk
     ·rename_i hn0
      have hn0 := Nat.eq_of_beq_eq_true hn0
      subst hn0
      rw [gate_some] at hk
      obtain ⟨hg,hk⟩ := hk
      have hg := Nat.eq_of_beq_eq_true hg
      have hp : All2 (fun (p : Nat × AV) (q : Nat × Value) => p.1 = q.1 /\ RV RT E p.2 q.2) (partsA F parts.toList) (parts.map fun (i,x) => (i,a.eval x)).toList := by
       simpa using parts_sound hF parts.toList
      obtain ⟨hlen,vs,hvs,hrun⟩ := build_run (w:=w) hp hu hz hfill hg (by omega)
      have hs2 := hs.frm (Frm.alloc w (.cells vs e) (fun _ => False)) (fun _ _ h => h) (fun _ _ _ h => h)
      refine ⟨_,E,.slice (some ⟨w.heap.size,0,none⟩) 0 0,w.alloc (.cells vs e),hk,?_,R.empt _,hs2,⟨.refl E,Frm.alloc w (.cells vs e) _,fun x hx _ => hx,Nat.le_refl _,hf,fun ad v h => Or.inl h⟩⟩
      unfold execOp
      simp only [ho,Sem.run_bind,hrun,Result.andThen_ok,Sem.run_pure]
     split at hk
     ·rename_i kd he
      split at hk
      ·rename_i l hl
       rw [gate_some] at hk
       obtain ⟨hg,hk⟩ := hk
       simp only [Bool.and_eq_true] at hg
       have hp : All2 (fun (p : Nat × AV) (q : Nat × Value) => p.1 = q.1 /\ RV RT E p.2 q.2) (partsA F parts.toList) (parts.map fun (i,x) => (i,a.eval x)).toList := by
        simpa using parts_sound hF parts.toList
       have hg1 := Nat.eq_of_beq_eq_true hg.1
       have hg2 := Nat.eq_of_beq_eq_true hg.2.1
       have hg3 := Nat.le_of_ble_eq_true hg.2.2
       obtain ⟨hlen,vs,hvs,hrun⟩ := build_run (w:=w) hp hu hz hfill (by omega) (by rw [hg1]; omega)
       obtain rfl := intsOf_spec hl
       obtain ⟨hsz,hcell⟩ := ints_cells hvs
       rw [hg1,List.length_map,Nat.mul_one] at hlen
       let E' : Env := ⟨E.info,fun ad => if ad.block = w.heap.size then (w.alloc (.cells vs e)).cell? ad else E.M ad⟩
       have hold : ∀ ad v,E.M ad = some v -> ad.block < w.heap.size := fun ad v h => World.block_lt_of_cell? _ _ (hs.ro ad v h).2.1
       have hle : E.Le E' := ⟨fun _ _ h => h,fun ad v h => by simp only [E']; rw [if_neg (Nat.ne_of_lt (hold ad v h))]; exact h⟩
       have hs2 := hs.frm (Frm.alloc w (.cells vs e) (fun _ => False)) (fun _ _ h => h) (fun _ _ _ h => h)
       refine ⟨_,E',.slice (some ⟨w.heap.size,0,none⟩) n n,w.alloc (.cells vs e),hk,?_,?_,⟨fun id b hb => ?_,hs2.disj,fun ad v h => ?_⟩,⟨hle,Frm.alloc w (.cells vs e) _,fun x hx _ => hx,Nat.le_refl _,hf,fun ad v h => by
        simp only [E'] at h
        split at h
        ·rename_i hbk; exact Or.inr (Or.inl (by omega))
        ·exact Or.inl h⟩⟩
       ·unfold execOp
        simp only [ho,Sem.run_bind,hrun,Result.andThen_ok,Sem.run_pure]
       ·rw [<- hlen]
        refine R.roi (Nat.le_refl _) fun i hi => ⟨_,rfl,rfl,?_⟩
        simp only [E',if_true,Nat.zero_add,cells_alloc]
        exact hcell i hi
       ·obtain ⟨I,hI,ok⟩ := hs2.blk id b hb
        exact ⟨I,hI,ok.mono hle⟩
       ·simp only [E'] at h
        split at h
        ·rename_i hbk
         refine ⟨?_,h,fun i b hb hfx => ?_⟩
         ·cases hsp : ad.spot with
          | none => rfl
          | some z => unfold World.cell? at h; split at h <;> simp [hsp] at h
         ·have := hs.cell_lt hb hfx
          simp only at this
          omega
        ·exact hs2.ro ad v h
      ·simp at hk
     ·simp at hk
    ·simp at hk
   ·simp at hk
  ·simp at hk
 ·rename_i e ho
  split at hk
  ·simp at hk
  ·split at hk
   ·rename_i z hz
    obtain ⟨v,h1,_⟩ := zero_sound (P:=P) (w:=w) (RT:=RT) (E:=E) hz
    refine ⟨_,E,.pointer (some ⟨w.heap.size,0,none⟩),w.alloc (.cells v.cells e),hk,?_,R.unk _,hs.frm (Frm.alloc w _ (fun _ => False)) (fun _ _ h => h) (fun _ _ _ h => h),⟨.refl E,Frm.alloc w _ _,fun x hx _ => hx,Nat.le_refl _,hf,fun ad v h => Or.inl h⟩⟩
    unfold execOp
    simp only [ho]
    simp [Sem.run_bind,Instr.alloc,h1,newVar,newRow,Result.andThen_ok,Sem.run_pure]
   ·simp at hk
 ·simp at hk
end Go.Eng
/-
 The engine, part five: what it says that a state meets a shape.
 Conditions: none; nothing is claimed of the program here.
-/
namespace Go.Eng
variable {RT : RoTab} {E : Env} {F : Fr} {a : Act} {H : Heap} {fp : Fp} {w : World} {P : Program} {Y : Type} {y : Y}
structure Ext (m m' : MS) : Prop where
 σlen : m'.σ.length = m.σ.length
 σ : ∀ (t : Nat) (v : View),m.σ[t]? = some v -> v ≠ .none -> m'.σ[t]? = some v
 is : ∀ (h : Nat) (x : Int),m.is[h]? = some x -> m'.is[h]? = some x
 bs : ∀ (h : Nat) (x : Bool),m.bs[h]? = some x -> m'.bs[h]? = some x
 ls : ∀ (h : Nat) (x : List Int),m.ls[h]? = some x -> m'.ls[h]? = some x
 rs : ∀ (h : Nat) (x : List (List Int)),m.rs[h]? = some x -> m'.rs[h]? = some x
 fis : ∀ (h : Nat) (x : Int),m.fis[h]? = some x -> m'.fis[h]? = some x
 fbs : ∀ (h : Nat) (x : Bool),m.fbs[h]? = some x -> m'.fbs[h]? = some x
 fls : ∀ (h : Nat) (x : List Int),m.fls[h]? = some x -> m'.fls[h]? = some x
 frs : ∀ (h : Nat) (x : List (List Int)),m.frs[h]? = some x -> m'.frs[h]? = some x
 lent : ∀ id,id ∈ m.lent -> id ∈ m'.lent
theorem Ext.refl (m : MS) : Ext m m := ⟨rfl,fun _ _ h _ => h,fun _ _ h => h,fun _ _ h => h,fun _ _ h => h,fun _ _ h => h,fun _ _ h => h,fun _ _ h => h,fun _ _ h => h,fun _ _ h => h,fun _ h => h⟩
theorem Ext.trans {a b c : MS} (h : Ext a b) (k : Ext b c) : Ext a c :=
 ⟨k.σlen.trans h.σlen,fun t v hv hn => k.σ t v (h.σ t v hv hn) hn,fun i x hx => k.is i x (h.is i x hx),fun i x hx => k.bs i x (h.bs i x hx),fun i x hx => k.ls i x (h.ls i x hx),fun i x hx => k.rs i x (h.rs i x hx),
  fun i x hx => k.fis i x (h.fis i x hx),fun i x hx => k.fbs i x (h.fbs i x hx),fun i x hx => k.fls i x (h.fls i x hx),fun i x hx => k.frs i x (h.frs i x hx),fun id hid => k.lent id (h.lent id hid)⟩
theorem snoc_get {α : Type} (l : List α) (z : α) : (snoc l z)[l.length]? = some z := by rw [snoc_eq]; simp
theorem snoc_keep {α : Type} (l : List α) (z : α) (h : Nat) (x : α) (hx : l[h]? = some x) : (snoc l z)[h]? = some x := by
 rw [snoc_eq]
 have hlt : h < l.length := by
  rcases Nat.lt_or_ge h l.length with h' | h'
  ·exact h'
  ·rw [List.getElem?_eq_none h'] at hx; simp at hx
 rw [List.getElem?_append_left hlt]
 exact hx
theorem nthD_of {α : Type} {d : α} {l : List α} {h : Nat} {x : α} (hx : l[h]? = some x) : nthD d l h = x := by
 rw [nthD_eq,List.getD_eq_getElem?_getD,hx]
 rfl
def lcOf (Lc : Option Leaves) (m : MS) : Leaves := match Lc with | none => m.fixed | some L => L
theorem pushI_sound {m : MS} {h : Nat} {n : Int} {k : MS -> Option Y} (hk : pushI m h n k = some y) :
  ∃ m',k m' = some y /\ Ext m m' /\ ∀ mf,Ext m' mf -> mf.leaves.i h = n := by
 unfold pushI at hk
 rw [gate_some] at hk
 obtain ⟨hh,hk⟩ := hk
 obtain rfl := Nat.eq_of_beq_eq_true hh
 rw [len_eq] at *
 refine ⟨_,hk,{ Ext.refl m with is := snoc_keep m.is n },fun mf hf => nthD_of (hf.is _ _ (snoc_get m.is n))⟩
theorem pushB_sound {m : MS} {h : Nat} {n : Bool} {k : MS -> Option Y} (hk : pushB m h n k = some y) :
  ∃ m',k m' = some y /\ Ext m m' /\ ∀ mf,Ext m' mf -> mf.leaves.b h = n := by
 unfold pushB at hk
 rw [gate_some] at hk
 obtain ⟨hh,hk⟩ := hk
 obtain rfl := Nat.eq_of_beq_eq_true hh
 rw [len_eq] at *
 refine ⟨_,hk,{ Ext.refl m with bs := snoc_keep m.bs n },fun mf hf => nthD_of (hf.bs _ _ (snoc_get m.bs n))⟩
theorem pushL_sound {m : MS} {h : Nat} {n : List Int} {k : MS -> Option Y} (hk : pushL m h n k = some y) :
  ∃ m',k m' = some y /\ Ext m m' /\ ∀ mf,Ext m' mf -> mf.leaves.l h = n := by
 unfold pushL at hk
 rw [gate_some] at hk
 obtain ⟨hh,hk⟩ := hk
 obtain rfl := Nat.eq_of_beq_eq_true hh
 rw [len_eq] at *
 refine ⟨_,hk,{ Ext.refl m with ls := snoc_keep m.ls n },fun mf hf => nthD_of (hf.ls _ _ (snoc_get m.ls n))⟩
theorem pushR_sound {m : MS} {h : Nat} {n : List (List Int)} {k : MS -> Option Y} (hk : pushR m h n k = some y) :
  ∃ m',k m' = some y /\ Ext m m' /\ ∀ mf,Ext m' mf -> mf.leaves.r h = n := by
 unfold pushR at hk
 rw [gate_some] at hk
 obtain ⟨hh,hk⟩ := hk
 obtain rfl := Nat.eq_of_beq_eq_true hh
 rw [len_eq] at *
 refine ⟨_,hk,{ Ext.refl m with rs := snoc_keep m.rs n },fun mf hf => nthD_of (hf.rs _ _ (snoc_get m.rs n))⟩
theorem fixI_sound {Lc : Option Leaves} {m : MS} {h : Nat} {n : Int} {k : MS -> Option Y} (hk : fixI Lc m h n k = some y) :
  ∃ m',k m' = some y /\ Ext m m' /\ ∀ mf,Ext m' mf -> (lcOf Lc mf).i h = n := by
 unfold fixI at hk
 split at hk
 ·rw [gate_some] at hk
  obtain ⟨hh,hk⟩ := hk
  obtain rfl := Nat.eq_of_beq_eq_true hh
  rw [len_eq] at *
  exact ⟨_,hk,{ Ext.refl m with fis := snoc_keep m.fis n },fun mf hf => nthD_of (hf.fis _ _ (snoc_get m.fis n))⟩
 ·rw [chkI_some] at hk
  exact ⟨m,hk.2,.refl m,fun _ _ => hk.1.symm⟩
theorem fixB_sound {Lc : Option Leaves} {m : MS} {h : Nat} {n : Bool} {k : MS -> Option Y} (hk : fixB Lc m h n k = some y) :
  ∃ m',k m' = some y /\ Ext m m' /\ ∀ mf,Ext m' mf -> (lcOf Lc mf).b h = n := by
 unfold fixB at hk
 split at hk
 ·rw [gate_some] at hk
  obtain ⟨hh,hk⟩ := hk
  obtain rfl := Nat.eq_of_beq_eq_true hh
  rw [len_eq] at *
  exact ⟨_,hk,{ Ext.refl m with fbs := snoc_keep m.fbs n },fun mf hf => nthD_of (hf.fbs _ _ (snoc_get m.fbs n))⟩
 ·rw [chkB_some] at hk
  exact ⟨m,hk.2,.refl m,fun _ _ => hk.1.symm⟩
theorem fixL_sound {Lc : Option Leaves} {m : MS} {h : Nat} {n : List Int} {k : MS -> Option Y} (hk : fixL Lc m h n k = some y) :
  ∃ m',k m' = some y /\ Ext m m' /\ ∀ mf,Ext m' mf -> (lcOf Lc mf).l h = n := by
 unfold fixL at hk
 split at hk
 ·rw [gate_some] at hk
  obtain ⟨hh,hk⟩ := hk
  obtain rfl := Nat.eq_of_beq_eq_true hh
  rw [len_eq] at *
  exact ⟨_,hk,{ Ext.refl m with fls := snoc_keep m.fls n },fun mf hf => nthD_of (hf.fls _ _ (snoc_get m.fls n))⟩
 ·rw [chkL_some] at hk
  exact ⟨m,hk.2,.refl m,fun _ _ => hk.1.symm⟩
theorem fixR_sound {Lc : Option Leaves} {m : MS} {h : Nat} {n : List (List Int)} {k : MS -> Option Y} (hk : fixR Lc m h n k = some y) :
  ∃ m',k m' = some y /\ Ext m m' /\ ∀ mf,Ext m' mf -> (lcOf Lc mf).r h = n := by
 unfold fixR at hk
 split at hk
 ·rw [gate_some] at hk
  obtain ⟨hh,hk⟩ := hk
  obtain rfl := Nat.eq_of_beq_eq_true hh
  rw [len_eq] at *
  exact ⟨_,hk,{ Ext.refl m with frs := snoc_keep m.frs n },fun mf hf => nthD_of (hf.frs _ _ (snoc_get m.frs n))⟩
 ·rw [chkR_some] at hk
  exact ⟨m,hk.2,.refl m,fun _ _ => hk.1.symm⟩
theorem fixN_sound {Lc : Option Leaves} {m : MS} {h : Nat} {n : Nat} {k : MS -> Option Y} (hk : fixN Lc m h n k = some y) :
  ∃ m',k m' = some y /\ Ext m m' /\ ∀ mf,Ext m' mf -> ((lcOf Lc mf).i h).toNat = n := by
 unfold fixN at hk
 split at hk
 ·rw [gate_some] at hk
  obtain ⟨hh,hk⟩ := hk
  obtain rfl := Nat.eq_of_beq_eq_true hh
  rw [len_eq] at *
  refine ⟨_,hk,{ Ext.refl m with fis := snoc_keep m.fis (n : Int) },fun mf hf => ?_⟩
  have : (lcOf none mf).i m.fis.length = (n : Int) := nthD_of (hf.fis _ _ (snoc_get m.fis (n : Int)))
  rw [this,Int.toNat_natCast]
 ·rw [chkN_some] at hk
  exact ⟨m,hk.2,.refl m,fun _ _ => hk.1.symm⟩
theorem bindView_sound {m : MS} {t : Nat} {v : View} {k : MS -> Option Y} (hv : v ≠ .none) (hk : bindView m t v k = some y) :
  ∃ m',k m' = some y /\ Ext m m' /\ ∀ mf,Ext m' mf -> mf.σ[t]? = some v := by
 unfold bindView at hk
 split at hk
 ·rename_i hn
  rw [nth_eq] at hn
  have hlt : t < m.σ.length := by
   rcases Nat.lt_or_ge t m.σ.length with h' | h'
   ·exact h'
   ·rw [List.getElem?_eq_none h'] at hn; simp at hn
  refine ⟨_,hk,{ Ext.refl m with σlen := by simp [setNth_eq],σ := fun t' v' h' hn' => ?_ },fun mf hf => hf.σ t v (by simp [setNth_eq,hlt]) hv⟩
  simp only [setNth_eq]
  have : t ≠ t' := fun he => by subst he; rw [hn] at h'; exact hn' (Option.some.inj h').symm
  rw [List.getElem?_set_ne this]
  exact h'
 ·rename_i id hn
  rw [nth_eq] at hn
  split at hk
  ·rw [gate_some] at hk
   obtain ⟨hh,hk⟩ := hk
   obtain rfl := Nat.eq_of_beq_eq_true hh
   exact ⟨m,hk,.refl m,fun mf hf => hf.σ _ _ hn (by simp)⟩
  ·simp at hk
 ·simp at hk
def RoA (H : Heap) (kd : IntKind) (x : Atom) (xs : List Int) (l : Option Nat) : Prop := roA H kd x (fun xs l => some (xs,l)) = some (xs,l)
theorem roA_bind {kd : IntKind} {x : Atom} {k : List Int -> Option Nat -> Option Y} (hk : roA H kd x k = some y) : ∃ xs l,RoA H kd x xs l /\ k xs l = some y := by
 unfold roA at hk
 split at hk
 ·rw [gate_some] at hk; exact ⟨_,_,by simp [RoA,roA,hk.1,gate],hk.2⟩
 ·exact ⟨_,_,rfl,hk⟩
 ·exact ⟨_,_,rfl,hk⟩
 ·split at hk
  ·rename_i h; rw [gate_some] at hk; exact ⟨_,_,by simp [RoA,roA,h,hk.1,gate],hk.2⟩
  ·simp at hk
 ·split at hk
  ·rename_i h; rw [gate_some] at hk; exact ⟨_,_,by simp [RoA,roA,h,hk.1,gate],hk.2⟩
  ·simp at hk
 ·simp at hk
def RrA (H : Heap) (T : RecT) (x : Atom) (xs : List (List Int)) (l : Option Nat) : Prop := rrA H T x (fun xs l => some (xs,l)) = some (xs,l)
theorem rrA_bind {T : RecT} {x : Atom} {k : List (List Int) -> Option Nat -> Option Y} (hk : rrA H T x k = some y) : ∃ xs l,RrA H T x xs l /\ k xs l = some y := by
 unfold rrA at hk
 split at hk
 ·rw [gate_some] at hk; exact ⟨_,_,by simp [RrA,rrA,hk.1,gate],hk.2⟩
 ·exact ⟨_,_,rfl,hk⟩
 ·exact ⟨_,_,rfl,hk⟩
 ·split at hk
  ·rename_i h; rw [gate_some] at hk; exact ⟨_,_,by simp [RrA,rrA,h,hk.1,gate],hk.2⟩
  ·simp at hk
 ·simp at hk
def MatchA (H : Heap) (L Lc : Leaves) (σ : List View) (lent : List Nat) (p : Pat) (x : Atom) : Prop :=
 match p with
 | .unk => True
 | .bool h => x = .bool (L.b h)
 | .int k h => x = .int k (L.i h)
 | .fbool h => x = .bool (Lc.b h)
 | .fint k h => x = .int k (Lc.i h)
 | .nilp => x = .nilp
 | .nils => x = .nils
 | .ptr t off => ∃ id,x = .ptr id off /\ σ[t]? = some (.whole id)
 | .full t nn => (∃ id nn',x = .full id nn' /\ (nn = true -> nn' = true) /\ σ[t]? = some (.whole id)) \/
   (nn = false /\ ∃ id lo n,x = .sub id lo n /\ σ[t]? = some (.part id lo n)) \/ (nn = false /\ x = .nils /\ σ[t]? = some .empty)
 | .roi k h => ∃ l,RoA H k x (L.l h) l /\ ∀ id,l = some id -> id ∈ lent
 | .froi k h => ∃ l,RoA H k x (Lc.l h) l /\ ∀ id,l = some id -> id ∈ lent
 | .ror tag => x = .ror tag
 | .rro T h => ∃ l,RrA H T x (L.r h) l /\ ∀ id,l = some id -> id ∈ lent
 | .frro T h => ∃ l,RrA H T x (Lc.r h) l /\ ∀ id,l = some id -> id ∈ lent
 | .fn f => x = .fn (.func f) []
 | .ifp ty t off => ∃ id,x = .iface ty false [.ptr id off] /\ σ[t]? = some (.whole id)
 | .fsub t h1 h2 => ∃ id,x = .sub id (Lc.i h1).toNat (Lc.i h2).toNat /\ σ[t]? = some (.whole id)
 | .clo f ts => ∃ cs,x = .fn (.func f) cs /\ All2 (fun (q : Nat × Nat) c => ∃ id,c = .ptr id q.2 /\ σ[q.1]? = some (.whole id)) ts cs
theorem mClo_sound : ∀ {ts : List (Nat × Nat)} {cs : List Atom} {m : MS} {k : MS -> Option Y},mClo ts cs m k = some y ->
  ∃ m',k m' = some y /\ Ext m m' /\ ∀ mf,Ext m' mf -> All2 (fun (q : Nat × Nat) c => ∃ id,c = .ptr id q.2 /\ mf.σ[q.1]? = some (.whole id)) ts cs
 | [],[],m,k,hk => ⟨m,hk,.refl m,fun _ _ => .nil⟩
 | (t,off) :: ts,c :: cs,m,k,hk => by
  cases c with
  | ptr id off' =>
   simp only [mClo] at hk
   rw [gate_some] at hk
   obtain ⟨hh,hk⟩ := hk
   obtain rfl := Nat.eq_of_beq_eq_true hh
   obtain ⟨m1,h1,h2,h3⟩ := bindView_sound (by simp) hk
   obtain ⟨m2,g1,g2,g3⟩ := mClo_sound h1
   exact ⟨m2,g1,h2.trans g2,fun mf hf => .cons ⟨id,rfl,h3 mf (g2.trans hf)⟩ (g3 mf hf)⟩
  | _ => simp [mClo] at hk
 | [],_ :: _,_,_,hk => by simp [mClo] at hk
 | _ :: _,[],_,_,hk => by simp [mClo] at hk
theorem lend_ext (m : MS) (l : Option Nat) : Ext m (lend m l) /\ ∀ id,l = some id -> id ∈ (lend m l).lent := by
 cases l with
 | none => exact ⟨.refl m,fun _ h => by simp at h⟩
 | some id => exact ⟨{ Ext.refl m with lent := fun i hi => by simp [lend,hi] },fun i hi => by simp at hi; subst hi; simp [lend]⟩
theorem mAtom_sound {Lc : Option Leaves} {p : Pat} {x : Atom} {m : MS} {k : MS -> Option Y} (hk : mAtom H Lc p x m k = some y) :
  ∃ m',k m' = some y /\ Ext m m' /\ ∀ mf,Ext m' mf -> MatchA H mf.leaves (lcOf Lc mf) mf.σ mf.lent p x := by
 unfold mAtom at hk
 split at hk
 ·exact ⟨m,hk,.refl m,fun _ _ => trivial⟩
 ·obtain ⟨m',h1,h2,h3⟩ := pushB_sound hk
  exact ⟨m',h1,h2,fun mf hf => by rw [MatchA,h3 mf hf]⟩
 ·rw [gate_some,eqK_iff] at hk
  obtain ⟨rfl,hk⟩ := hk
  obtain ⟨m',h1,h2,h3⟩ := pushI_sound hk
  exact ⟨m',h1,h2,fun mf hf => by rw [MatchA,h3 mf hf]⟩
 ·obtain ⟨m',h1,h2,h3⟩ := fixB_sound hk
  exact ⟨m',h1,h2,fun mf hf => by rw [MatchA,h3 mf hf]⟩
 ·rw [gate_some,eqK_iff] at hk
  obtain ⟨rfl,hk⟩ := hk
  obtain ⟨m',h1,h2,h3⟩ := fixI_sound hk
  exact ⟨m',h1,h2,fun mf hf => by rw [MatchA,h3 mf hf]⟩
 ·exact ⟨m,hk,.refl m,fun _ _ => rfl⟩
 ·rw [gate_some] at hk
  obtain ⟨hh,hk⟩ := hk
  obtain rfl := Nat.eq_of_beq_eq_true hh
  obtain ⟨m',h1,h2,h3⟩ := bindView_sound (by simp) hk
  exact ⟨m',h1,h2,fun mf hf => ⟨_,rfl,h3 mf hf⟩⟩
 ·rename_i t nn id nn'
  rw [gate_some] at hk
  obtain ⟨hh,hk⟩ := hk
  obtain ⟨m',h1,h2,h3⟩ := bindView_sound (by simp) hk
  refine ⟨m',h1,h2,fun mf hf => Or.inl ⟨_,_,rfl,fun hn => ?_,h3 mf hf⟩⟩
  simp [hn] at hh
  exact hh
 ·rw [gate_some] at hk
  obtain ⟨hh,hk⟩ := hk
  obtain ⟨m',h1,h2,h3⟩ := bindView_sound (by simp) hk
  exact ⟨m',h1,h2,fun mf hf => Or.inr (Or.inl ⟨by simpa using hh,_,_,_,rfl,h3 mf hf⟩)⟩
 ·rw [gate_some] at hk
  obtain ⟨hh,hk⟩ := hk
  obtain ⟨m',h1,h2,h3⟩ := bindView_sound (by simp) hk
  exact ⟨m',h1,h2,fun mf hf => Or.inr (Or.inr ⟨by simpa using hh,rfl,h3 mf hf⟩)⟩
 ·obtain ⟨xs,l,hr,hk⟩ := roA_bind hk
  obtain ⟨m',h1,h2,h3⟩ := pushL_sound hk
  obtain ⟨g1,g2⟩ := lend_ext m l
  exact ⟨m',h1,g1.trans h2,fun mf hf => ⟨l,by rw [h3 mf hf]; exact hr,fun id hid => hf.lent id (h2.lent id (g2 id hid))⟩⟩
 ·obtain ⟨xs,l,hr,hk⟩ := roA_bind hk
  obtain ⟨m',h1,h2,h3⟩ := fixL_sound hk
  obtain ⟨g1,g2⟩ := lend_ext m l
  exact ⟨m',h1,g1.trans h2,fun mf hf => ⟨l,by rw [h3 mf hf]; exact hr,fun id hid => hf.lent id (h2.lent id (g2 id hid))⟩⟩
 ·rw [gate_some] at hk
  obtain ⟨hh,hk⟩ := hk
  obtain rfl := Nat.eq_of_beq_eq_true hh
  exact ⟨m,hk,.refl m,fun _ _ => rfl⟩
 ·rw [gate_some] at hk
  obtain ⟨hh,hk⟩ := hk
  obtain rfl := Nat.eq_of_beq_eq_true hh
  exact ⟨m,hk,.refl m,fun _ _ => rfl⟩
 ·rw [gate_some] at hk
  obtain ⟨hh,hk⟩ := hk
  simp only [Bool.and_eq_true] at hh
  obtain ⟨h1,h2⟩ := hh
  obtain rfl := Nat.eq_of_beq_eq_true h1
  obtain rfl := Nat.eq_of_beq_eq_true h2
  obtain ⟨m',h1,h2,h3⟩ := bindView_sound (by simp) hk
  exact ⟨m',h1,h2,fun mf hf => ⟨_,rfl,h3 mf hf⟩⟩
 ·obtain ⟨m1,h1,h2,h3⟩ := fixN_sound hk
  obtain ⟨m2,g1,g2,g3⟩ := fixN_sound h1
  obtain ⟨m',k1,k2,k3⟩ := bindView_sound (by simp) g1
  exact ⟨m',k1,h2.trans (g2.trans k2),fun mf hf => ⟨_,by rw [h3 mf (g2.trans (k2.trans hf)),g3 mf (k2.trans hf)],k3 mf hf⟩⟩
 ·rw [gate_some] at hk
  obtain ⟨hh,hk⟩ := hk
  obtain rfl := Nat.eq_of_beq_eq_true hh
  obtain ⟨m',h1,h2,h3⟩ := mClo_sound hk
  exact ⟨m',h1,h2,fun mf hf => ⟨_,rfl,h3 mf hf⟩⟩
 ·exact ⟨m,hk,.refl m,fun _ _ => rfl⟩
 ·obtain ⟨xs,l,hr,hk⟩ := rrA_bind hk
  obtain ⟨m',h1,h2,h3⟩ := pushR_sound hk
  obtain ⟨g1,g2⟩ := lend_ext m l
  exact ⟨m',h1,g1.trans h2,fun mf hf => ⟨l,by rw [h3 mf hf]; exact hr,fun id hid => hf.lent id (h2.lent id (g2 id hid))⟩⟩
 ·obtain ⟨xs,l,hr,hk⟩ := rrA_bind hk
  obtain ⟨m',h1,h2,h3⟩ := fixR_sound hk
  obtain ⟨g1,g2⟩ := lend_ext m l
  exact ⟨m',h1,g1.trans h2,fun mf hf => ⟨l,by rw [h3 mf hf]; exact hr,fun id hid => hf.lent id (h2.lent id (g2 id hid))⟩⟩
 ·simp at hk
abbrev MatchAs (H : Heap) (L Lc : Leaves) (σ : List View) (lent : List Nat) : List Pat -> List Atom -> Prop := All2 (MatchA H L Lc σ lent)
theorem mAtoms_sound {Lc : Option Leaves} : ∀ {ps : List Pat} {as : List Atom} {m : MS} {k : MS -> Option Y},mAtoms H Lc ps as m k = some y ->
  ∃ m',k m' = some y /\ Ext m m' /\ ∀ mf,Ext m' mf -> MatchAs H mf.leaves (lcOf Lc mf) mf.σ mf.lent ps as
 | [],[],m,k,hk => ⟨m,hk,.refl m,fun _ _ => .nil⟩
 | p :: ps,x :: as,m,k,hk => by
  simp only [mAtoms] at hk
  obtain ⟨m1,h1,h2,h3⟩ := mAtom_sound hk
  obtain ⟨m2,g1,g2,g3⟩ := mAtoms_sound h1
  exact ⟨m2,g1,h2.trans g2,fun mf hf => .cons (h3 mf (g2.trans hf)) (g3 mf hf)⟩
 | [],_ :: _,_,_,hk => by simp [mAtoms] at hk
 | _ :: _,[],_,_,hk => by simp [mAtoms] at hk
abbrev MatchT (H : Heap) (L Lc : Leaves) (σ : List View) (lent : List Nat) : List (Bool × List Pat) -> List (Bool × List Atom) -> Prop :=
 All2 fun p x => p.1 = x.1 /\ MatchAs H L Lc σ lent p.2 x.2
theorem mTup_sound {Lc : Option Leaves} : ∀ {ps : List (Bool × List Pat)} {as : List (Bool × List Atom)} {m : MS} {k : MS -> Option Y},mTup H Lc ps as m k = some y ->
  ∃ m',k m' = some y /\ Ext m m' /\ ∀ mf,Ext m' mf -> MatchT H mf.leaves (lcOf Lc mf) mf.σ mf.lent ps as
 | [],[],m,k,hk => ⟨m,hk,.refl m,fun _ _ => .nil⟩
 | (g,ps) :: r,(g',as) :: s,m,k,hk => by
  simp only [mTup] at hk
  rw [gate_some] at hk
  obtain ⟨hg,hk⟩ := hk
  have hgg : g = g' := by cases g <;> cases g' <;> simp [eqB] at hg <;> rfl
  obtain ⟨m1,h1,h2,h3⟩ := mAtoms_sound hk
  obtain ⟨m2,g1,g2,g3⟩ := mTup_sound h1
  exact ⟨m2,g1,h2.trans g2,fun mf hf => .cons ⟨hgg,h3 mf (g2.trans hf)⟩ (g3 mf hf)⟩
 | [],_ :: _,_,_,hk => by simp [mTup] at hk
 | _ :: _,[],_,_,hk => by simp [mTup] at hk
def MatchV (H : Heap) (L Lc : Leaves) (σ : List View) (lent : List Nat) (p : VPat) (x : AV) : Prop :=
 match p with
 | .at .unk => True
 | .at p => ∃ b,x = .at b /\ MatchA H L Lc σ lent p b
 | .agg ps => ∃ as,x = .agg as /\ MatchAs H L Lc σ lent ps as
 | .tup ps => ∃ as,x = .tup as /\ MatchT H L Lc σ lent ps as
theorem mAV_sound {Lc : Option Leaves} {p : VPat} {x : AV} {m : MS} {k : MS -> Option Y} (hk : mAV H Lc p x m k = some y) :
  ∃ m',k m' = some y /\ Ext m m' /\ ∀ mf,Ext m' mf -> MatchV H mf.leaves (lcOf Lc mf) mf.σ mf.lent p x := by
 unfold mAV at hk
 split at hk
 ·exact ⟨m,hk,.refl m,fun _ _ => trivial⟩
 ·rename_i p b hne
  obtain ⟨m',h1,h2,h3⟩ := mAtom_sound hk
  refine ⟨m',h1,h2,fun mf hf => ?_⟩
  have := h3 mf hf
  cases p <;> first | exact absurd rfl (hne _) | exact ⟨b,rfl,this⟩ | trivial
 ·obtain ⟨m',h1,h2,h3⟩ := mAtoms_sound hk
  exact ⟨m',h1,h2,fun mf hf => ⟨_,rfl,h3 mf hf⟩⟩
 ·obtain ⟨m',h1,h2,h3⟩ := mTup_sound hk
  exact ⟨m',h1,h2,fun mf hf => ⟨_,rfl,h3 mf hf⟩⟩
 ·simp at hk
theorem mAVs_sound {Lc : Option Leaves} : ∀ {ps : List VPat} {as : List AV} {m : MS} {k : MS -> Option Y},mAVs H Lc ps as m k = some y ->
  ∃ m',k m' = some y /\ Ext m m' /\ ∀ mf,Ext m' mf -> All2 (MatchV H mf.leaves (lcOf Lc mf) mf.σ mf.lent) ps as
 | [],[],m,k,hk => ⟨m,hk,.refl m,fun _ _ => .nil⟩
 | p :: ps,x :: as,m,k,hk => by
  simp only [mAVs] at hk
  obtain ⟨m1,h1,h2,h3⟩ := mAV_sound hk
  obtain ⟨m2,g1,g2,g3⟩ := mAVs_sound h1
  exact ⟨m2,g1,h2.trans g2,fun mf hf => .cons (h3 mf (g2.trans hf)) (g3 mf hf)⟩
 | [],_ :: _,_,_,hk => by simp [mAVs] at hk
 | _ :: _,[],_,_,hk => by simp [mAVs] at hk
theorem mSlots_sound {Lc : Option Leaves} : ∀ {ps : List (Nat × VPat)} {m : MS} {k : MS -> Option Y},mSlots H Lc F ps m k = some y ->
  ∃ m',k m' = some y /\ Ext m m' /\ ∀ mf,Ext m' mf -> ∀ q ∈ ps,MatchV H mf.leaves (lcOf Lc mf) mf.σ mf.lent q.2 (F q.1)
 | [],m,k,hk => ⟨m,hk,.refl m,fun _ _ q hq => by simp at hq⟩
 | (t,p) :: ps,m,k,hk => by
  simp only [mSlots] at hk
  obtain ⟨m1,h1,h2,h3⟩ := mAV_sound hk
  obtain ⟨m2,g1,g2,g3⟩ := mSlots_sound h1
  refine ⟨m2,g1,h2.trans g2,fun mf hf q hq => ?_⟩
  rcases List.mem_cons.1 hq with rfl | hq
  ·exact h3 mf (g2.trans hf)
  ·exact g3 mf hf q hq
def MatchB (H : Heap) (L Lc : Leaves) (σ : List View) (lent : List Nat) (p : BPat) (v : View) : Prop :=
 match p,v with
 | .cells wd ps,.whole id => ∃ cs,H id = some (.cells wd cs) /\ MatchAs H L Lc σ lent ps cs
 | .ints g kd h,.whole id => ∃ g',H id = some (.ints g' kd (L.l h)) /\ (g = true -> g' = true)
 | .fints g kd h,.whole id => ∃ g',H id = some (.ints g' kd (Lc.l h)) /\ (g = true -> g' = true)
 | .ints g kd h,.part id lo n => g = false /\ ∃ g' xs,H id = some (.ints g' kd xs) /\ L.l h = (xs.drop lo).take n
 | .fints g kd h,.part id lo n => g = false /\ ∃ g' xs,H id = some (.ints g' kd xs) /\ Lc.l h = (xs.drop lo).take n
 | .ints _ _ h,.empty => L.l h = []
 | .fints _ _ h,.empty => Lc.l h = []
 | .recs g T h,.whole id => (∃ g',H id = some (.recs g' T (L.r h)) /\ (g = true -> g' = true)) \/
   (g = false /\ ∃ kd xss i b gb ys,T = ⟨[],some kd,false⟩ /\ H id = some (.hole kd xss i b) /\ H b = some (.ints gb kd ys) /\ b ∈ lent /\ L.r h = xss.set i ys)
 | .frecs g T h,.whole id => ∃ g',H id = some (.recs g' T (Lc.r h)) /\ (g = true -> g' = true)
 | .fhole kd h hi t,.whole id => ∃ b,H id = some (.hole kd (Lc.r h) (Lc.i hi).toNat b) /\ σ[t]? = some (.whole b)
 | _,_ => False
theorem mBlk_sound {Lc : Option Leaves} {p : BPat} {v : View} {m : MS} {k : MS -> Option Y} (hk : mBlk H Lc p v m k = some y) :
  ∃ m',k m' = some y /\ Ext m m' /\ ∀ mf,Ext m' mf -> MatchB H mf.leaves (lcOf Lc mf) mf.σ mf.lent p v := by
 unfold mBlk at hk
 split at hk
 ·split at hk
  ·rename_i hb
   rw [gate_some] at hk
   obtain ⟨hh,hk⟩ := hk
   obtain rfl := Nat.eq_of_beq_eq_true hh
   obtain ⟨m',h1,h2,h3⟩ := mAtoms_sound hk
   exact ⟨m',h1,h2,fun mf hf => ⟨_,hb,h3 mf hf⟩⟩
  ·simp at hk
 ·rename_i g kd h id
  split at hk
  ·rename_i g' kd' xs hb
   rw [gate_some] at hk
   obtain ⟨hh,hk⟩ := hk
   simp only [Bool.and_eq_true,eqK_iff] at hh
   obtain ⟨hg,rfl⟩ := hh
   obtain ⟨m',h1,h2,h3⟩ := pushL_sound hk
   exact ⟨m',h1,h2,fun mf hf => ⟨g',by rw [h3 mf hf]; exact hb,fun hg' => by simpa [hg'] using hg⟩⟩
  ·simp at hk
 ·rename_i g kd h id
  split at hk
  ·rename_i g' kd' xs hb
   rw [gate_some] at hk
   obtain ⟨hh,hk⟩ := hk
   simp only [Bool.and_eq_true,eqK_iff] at hh
   obtain ⟨hg,rfl⟩ := hh
   obtain ⟨m',h1,h2,h3⟩ := fixL_sound hk
   exact ⟨m',h1,h2,fun mf hf => ⟨g',by rw [h3 mf hf]; exact hb,fun hg' => by simpa [hg'] using hg⟩⟩
  ·simp at hk
 ·split at hk
  ·rename_i hb
   rw [gate_some,eqK_iff] at hk
   obtain ⟨rfl,hk⟩ := hk
   obtain ⟨m',h1,h2,h3⟩ := pushL_sound hk
   exact ⟨m',h1,h2,fun mf hf => ⟨rfl,_,_,hb,h3 mf hf⟩⟩
  ·simp at hk
 ·split at hk
  ·rename_i hb
   rw [gate_some,eqK_iff] at hk
   obtain ⟨rfl,hk⟩ := hk
   obtain ⟨m',h1,h2,h3⟩ := fixL_sound hk
   exact ⟨m',h1,h2,fun mf hf => ⟨rfl,_,_,hb,h3 mf hf⟩⟩
  ·simp at hk
 ·obtain ⟨m',h1,h2,h3⟩ := pushL_sound hk
  exact ⟨m',h1,h2,fun mf hf => h3 mf hf⟩
 ·obtain ⟨m',h1,h2,h3⟩ := fixL_sound hk
  exact ⟨m',h1,h2,fun mf hf => h3 mf hf⟩
 ·rename_i g T h id
  split at hk
  ·rename_i g' T' xss hb
   rw [gate_some] at hk
   obtain ⟨hh,hk⟩ := hk
   simp only [Bool.and_eq_true,eqT_iff] at hh
   obtain ⟨hg,rfl⟩ := hh
   obtain ⟨m',h1,h2,h3⟩ := pushR_sound hk
   exact ⟨m',h1,h2,fun mf hf => Or.inl ⟨g',by rw [h3 mf hf]; exact hb,fun hg' => by simpa [hg'] using hg⟩⟩
  ·rename_i kd xss i b hb
   split at hk
   ·rename_i gb kd' ys hbb
    rw [gate_some] at hk
    obtain ⟨hh,hk⟩ := hk
    simp only [Bool.and_eq_true,eqT_iff,eqK_iff,Bool.not_eq_true'] at hh
    obtain ⟨⟨hg,hT⟩,rfl⟩ := hh
    obtain ⟨m',h1,h2,h3⟩ := pushR_sound hk
    obtain ⟨g1,g2⟩ := lend_ext m (some b)
    exact ⟨m',h1,g1.trans h2,fun mf hf => Or.inr ⟨hg,kd,xss,i,b,gb,ys,hT,hb,hbb,hf.lent b (h2.lent b (g2 b rfl)),h3 mf hf⟩⟩
   ·simp at hk
  ·simp at hk
 ·rename_i g T h id
  split at hk
  ·rename_i g' T' xss hb
   rw [gate_some] at hk
   obtain ⟨hh,hk⟩ := hk
   simp only [Bool.and_eq_true,eqT_iff] at hh
   obtain ⟨hg,rfl⟩ := hh
   obtain ⟨m',h1,h2,h3⟩ := fixR_sound hk
   exact ⟨m',h1,h2,fun mf hf => ⟨g',by rw [h3 mf hf]; exact hb,fun hg' => by simpa [hg'] using hg⟩⟩
  ·simp at hk
 ·rename_i kd h hi t id
  split at hk
  ·rename_i kd' xss i b hb
   rw [gate_some,eqK_iff] at hk
   obtain ⟨rfl,hk⟩ := hk
   obtain ⟨m1,h1,h2,h3⟩ := fixR_sound hk
   obtain ⟨m2,g1,g2,g3⟩ := fixN_sound h1
   obtain ⟨m',k1,k2,k3⟩ := bindView_sound (by simp) g1
   refine ⟨m',k1,h2.trans (g2.trans k2),fun mf hf => ⟨b,?_,k3 mf hf⟩⟩
   rw [h3 mf (g2.trans (k2.trans hf)),g3 mf (k2.trans hf)]
   exact hb
  ·simp at hk
 ·simp at hk
theorem mBlks_sound {Lc : Option Leaves} : ∀ {ps : List (Nat × BPat)} {m : MS} {k : MS -> Option Y},mBlks H Lc ps m k = some y ->
  ∃ m',k m' = some y /\ Ext m m' /\ ∀ mf,Ext m' mf -> ∀ q ∈ ps,q.2 = .dead \/ ∃ v,mf.σ[q.1]? = some v /\ MatchB H mf.leaves (lcOf Lc mf) mf.σ mf.lent q.2 v
 | [],m,k,hk => ⟨m,hk,.refl m,fun _ _ q hq => by simp at hq⟩
 | (t,p) :: ps,m,k,hk => by
  simp only [mBlks] at hk
  split at hk
  ·obtain ⟨m2,g1,g2,g3⟩ := mBlks_sound hk
   refine ⟨m2,g1,g2,fun mf hf q hq => ?_⟩
   rcases List.mem_cons.1 hq with rfl | hq
   ·exact Or.inl rfl
   ·exact g3 mf hf q hq
  ·split at hk
   ·rename_i v hv
    rw [nth_eq] at hv
    obtain ⟨m1,h1,h2,h3⟩ := mBlk_sound hk
    obtain ⟨m2,g1,g2,g3⟩ := mBlks_sound h1
    refine ⟨m2,g1,h2.trans g2,fun mf hf q hq => ?_⟩
    rcases List.mem_cons.1 hq with rfl | hq
    ·have hm := h3 mf (g2.trans hf)
     refine Or.inr ⟨v,(h2.trans (g2.trans hf)).σ t v hv (fun hn => ?_),hm⟩
     subst hn
     unfold MatchB at hm
     split at hm <;> simp_all
    ·exact g3 mf hf q hq
   ·simp at hk
end Go.Eng
/-
 The engine, part six: a state under the names of a shape.
 Conditions: none; nothing is claimed of the program here.
-/
namespace Go.Eng
variable {RT : RoTab} {E : Env} {F : Fr} {a : Act} {H : Heap} {fp : Fp} {w : World} {P : Program} {Y : Type} {y : Y}
def Simple : Atom -> Prop
 | .int _ _ | .bool _ | .str _ | .roi _ _ | .nilp | .nils => True
 | _ => False
def RTok (RT : RoTab) : Prop := ∀ tag T i j,RT tag = some T -> Simple (T.f i j)
theorem R.simple {E' : Env} {x : Atom} {u : Value} (hM : ∀ ad v,E.M ad = some v -> E'.M ad = some v) (hs : Simple x) (h : R RT E x u) : R RT E' x u := by
 cases h with
 | int k n => exact .int k n
 | bool b => exact .bool b
 | str s => exact .str s
 | nilp => exact .nilp
 | nils => exact .nils
 | roi hc hx => exact .roi hc fun i hi => let ⟨ad,h1,h2,h3⟩ := hx i hi; ⟨ad,h1,h2,hM _ _ h3⟩
 | _ => simp [Simple] at hs
def viewInfo (E : Env) : View -> Option Info
 | .none => none
 | .whole id => E.info id
 | .part id lo n => (E.info id).map fun I => ⟨I.cb,I.coff + lo,n,n,1,false⟩
 | .empty => some ⟨0,0,0,0,1,true⟩
def viewFp (E : Env) (fp : Fp) (v : View) (x : Nat × Nat) : Prop :=
 match v with
 | .none => False
 | .whole id => fp id x
 | .part id lo n => ∃ I,E.info id = some I /\ Own ⟨I.cb,I.coff + lo,n,n,1,false⟩ x
 | .empty => False
open Classical in
noncomputable def baseE (E : Env) (H : Heap) (fp : Fp) (w : World) (σ : List View) (lent : List Nat) : Env where
 info := fun t => match σ[t]? with
  | some v => viewInfo E v
  | none => none
 M := fun ad => match E.M ad with
  | some v => some v
  | none => if ad.spot = none /\ ∃ id b,id ∈ lent /\ H id = some b /\ fp id (ad.block,ad.off) then w.cell? ad else none
def baseFp (E : Env) (fp : Fp) (σ : List View) : Fp := fun t x => match σ[t]? with
 | some v => viewFp E fp v x
 | none => False
theorem baseE_M {σ : List View} {lent : List Nat} {ad : Addr} {v : Value} (h : E.M ad = some v) : (baseE E H fp w σ lent).M ad = some v := by
 simp [baseE,h]
theorem baseE_none {σ : List View} {lent : List Nat} (hl : noLent lent = true) {ad : Addr} {v : Value} (h : (baseE E H fp w σ lent).M ad = some v) : E.M ad = some v := by
 cases lent with
 | cons => simp [noLent] at hl
 | nil =>
  cases hm : E.M ad with
  | some u => rw [baseE_M hm] at h; exact h
  | none => simp [baseE,hm] at h
theorem baseE_ext {σ : List View} {lent : List Nat} : MExt E H fp w (baseE E H fp w σ lent) := by
 intro ad v h
 cases hm : E.M ad with
 | some u => rw [baseE_M hm] at h; exact Or.inl h
 | none =>
  simp only [baseE,hm] at h
  split at h
  ·rename_i hc
   obtain ⟨_,id,b,_,hb,hf⟩ := hc
   exact Or.inr (Or.inr ⟨id,b,hb,hf⟩)
  ·simp at h
theorem baseE_info {σ : List View} {lent : List Nat} {t : Nat} {v : View} (h : σ[t]? = some v) : (baseE E H fp w σ lent).info t = viewInfo E v := by
 simp [baseE,h]
theorem baseE_lent {σ : List View} {lent : List Nat} (hs : Sim RT E H fp w) {ad : Addr} {v : Value} {id : Nat} {b : Blk} (hsp : ad.spot = none) (hid : id ∈ lent) (hb : H id = some b)
  (hf : fp id (ad.block,ad.off)) (hc : w.cell? ad = some v) : (baseE E H fp w σ lent).M ad = some v := by
 cases hm : E.M ad with
 | some u =>
  rw [baseE_M hm,<- hc]
  exact (hs.ro ad u hm).2.1.symm
 | none =>
  simp only [baseE,hm]
  rw [if_pos ⟨hsp,id,b,hid,hb,hf⟩]
  exact hc
theorem ro_R {kd : IntKind} {x : Atom} {u : Value} {xs : List Int} {l : Option Nat} {σ : List View} {lent : List Nat} (hs : Sim RT E H fp w) (hx : R RT E x u) (hr : RoA H kd x xs l)
  (hl : ∀ id,l = some id -> id ∈ lent) : R RT (baseE E H fp w σ lent) (.roi kd xs) u := by
 obtain ⟨xs',l',h1,⟨base,cap,rfl,hc,hh⟩,h3⟩ := ro_sound hs hx hr
 simp only [Option.some.injEq,Prod.mk.injEq] at h1
 obtain ⟨rfl,rfl⟩ := h1
 refine R.roi hc fun i hi => ?_
 obtain ⟨ad,hb,hsp,hcell⟩ := hh i hi
 refine ⟨ad,hb,hsp,?_⟩
 cases l' with
 | none =>
  simp only at h3
  cases h3 with
  | roi _ hx' =>
   obtain ⟨ad',hb',_,hm⟩ := hx' i hi
   rw [hb] at hb'
   obtain rfl := Option.some.inj hb'
   exact baseE_M hm
 | some id =>
  obtain ⟨b,hbk,hfp⟩ := h3
  exact baseE_lent hs rfl (hl id rfl) hbk (hfp base cap ad i rfl hb hi) hcell
theorem rr_R {T : RecT} {x : Atom} {u : Value} {xs : List (List Int)} {l : Option Nat} {σ : List View} {lent : List Nat} (hs : Sim RT E H fp w) (hx : R RT E x u) (hr : RrA H T x xs l)
  (hl : ∀ id,l = some id -> id ∈ lent) : R RT (baseE E H fp w σ lent) (.rro T xs) u := by
 unfold RrA rrA at hr
 split at hr
 ·rw [gate_some,eqT_iff] at hr
  obtain ⟨rfl,h⟩ := hr
  simp only [Option.some.injEq,Prod.mk.injEq] at h
  obtain ⟨rfl,rfl⟩ := h
  exact rro_R (fun _ _ h => baseE_M h) hx
 ·simp only [Option.some.injEq,Prod.mk.injEq] at hr
  obtain ⟨rfl,rfl⟩ := hr
  cases hx
  exact R.rro (xss:=[]) (base:=none) (cap:=0) (fun _ _ => undef) (Nat.le_refl _) (fun i j hi => by simp at hi) (fun i j x hi => by simp at hi)
 ·simp only [Option.some.injEq,Prod.mk.injEq] at hr
  obtain ⟨rfl,rfl⟩ := hr
  cases hx with
  | empt base => exact R.rro (xss:=[]) (base:=base) (cap:=0) (fun _ _ => undef) (Nat.le_refl _) (fun i j hi => by simp at hi) (fun i j x hi => by simp at hi)
 ·rename_i id nn
  split at hr
  ·rename_i g T' xss hb
   rw [gate_some,eqT_iff] at hr
   obtain ⟨rfl,h⟩ := hr
   simp only [Option.some.injEq,Prod.mk.injEq] at h
   obtain ⟨rfl,rfl⟩ := h
   have hl := hl id rfl
   obtain ⟨I,hI,ok⟩ := hs.blk _ _ hb
   obtain ⟨k1,k2,k3,k4⟩ := ok.kind
   have hcap := ok.cap
   cases hx with
   | full h hbase hn hc hg =>
    rename_i cap J base
    rw [hI] at h
    obtain rfl := Option.some.inj h
    rw [k2]
    have hcell : ∀ i j,i < xss.length -> j < recW T -> ∃ v,w.cell? ⟨I.cb,I.coff + (i * I.w + j),none⟩ = some v /\ R RT E ((recA T (xss.getD i [])).getD j .unk) v := fun i j hi hj => by
     have hj' : j < (recA T (xss.getD i [])).length := by rw [recA_len]; exact hj
     obtain ⟨v,hv,hr⟩ := k4 i j _ hi (List.getElem?_eq_getElem hj')
     refine ⟨v,hv,?_⟩
     rw [List.getD_eq_getElem?_getD,List.getElem?_eq_getElem hj']
     exact hr
    have hb1 : ∀ i j,i < xss.length -> j < recW T -> base = some ⟨I.cb,I.coff,none⟩ := fun i j hi _ => by
     rcases hbase with h | ⟨h0,_⟩
     ·exact h
     ·omega
    refine R.rro (fun i j => (w.cell? ⟨I.cb,I.coff + (i * I.w + j),none⟩).getD undef) (by omega) (fun i j hi hj => ?_) (fun i j x hi hj => ?_)
    ·obtain ⟨v,hv,_⟩ := hcell i j hi hj
     refine ⟨_,hb1 i j hi hj,rfl,?_⟩
     rw [<- k1,hv]
     refine baseE_lent hs rfl hl hb ((ok.own _).2 ⟨rfl,by simp,?_⟩) hv
     have := cell_in (n:=xss.length) hi hj
     rw [k1]
     simp only
     split
     ·have : I.n * recW T <= I.cap * recW T := Nat.mul_le_mul_right _ hcap
      rw [k2] at this
      omega
     ·rw [k2]; omega
    ·obtain ⟨v,hv,hr⟩ := k4 i j x hi hj
     rw [hv]
     exact recA_R hj (fun _ _ h => baseE_M h) hr
  ·simp at hr
 ·simp at hr
theorem All2.get {α β : Type} {r : α -> β -> Prop} : ∀ {as : List α} {bs : List β},All2 r as bs -> ∀ {j : Nat} {x : α},as[j]? = some x -> ∃ z,bs[j]? = some z /\ r x z
 | _,_,.nil,j,x,h => by simp at h
 | _,_,.cons hr hs,0,x,h => by simp at h; subst h; exact ⟨_,rfl,hr⟩
 | _,_,.cons hr hs,j + 1,x,h => by simp at h; simpa using hs.get h
theorem All2.length {α β : Type} {r : α -> β -> Prop} : ∀ {as : List α} {bs : List β},All2 r as bs -> as.length = bs.length
 | _,_,.nil => rfl
 | _,_,.cons _ hs => by simp [hs.length]
theorem All2.mono {α β : Type} {r q : α -> β -> Prop} (h : ∀ a b,r a b -> q a b) : ∀ {as : List α} {bs : List β},All2 r as bs -> All2 q as bs
 | _,_,.nil => .nil
 | _,_,.cons hr hs => .cons (h _ _ hr) (hs.mono h)
theorem All2.of_get {α β : Type} {r : α -> β -> Prop} : ∀ {as : List α} {bs : List β},as.length = bs.length -> (∀ (j : Nat) (x : α) (z : β),as[j]? = some x -> bs[j]? = some z -> r x z) -> All2 r as bs
 | [],[],_,_ => .nil
 | [],_ :: _,h,_ => by simp at h
 | _ :: _,[],h,_ => by simp at h
 | a :: as,b :: bs,h,hr => .cons (hr 0 a b rfl rfl) (All2.of_get (by simpa using h) fun j x z hx hz => hr (j + 1) x z (by simpa using hx) (by simpa using hz))
theorem cloA_get : ∀ {ts : List (Nat × Nat)} {j : Nat} {x : Atom},(cloA ts)[j]? = some x -> ∃ q,ts[j]? = some q /\ x = .ptr q.1 q.2
 | [],j,x,h => by simp [cloA] at h
 | (t,off) :: r,0,x,h => by simp only [cloA,List.getElem?_cons_zero,Option.some.injEq] at h; exact ⟨(t,off),rfl,h.symm⟩
 | (t,off) :: r,j + 1,x,h => by simp only [cloA,List.getElem?_cons_succ] at h ⊢; exact cloA_get h
theorem cloA_len : ∀ ts : List (Nat × Nat),(cloA ts).length = ts.length
 | [] => rfl
 | (t,off) :: r => by simp [cloA,cloA_len r]
theorem matchA_R {L Lc : Leaves} {σ : List View} {lent : List Nat} {p : Pat} {x : Atom} {u : Value} (hRT : RTok RT) (hs : Sim RT E H fp w) (hm : MatchA H L Lc σ lent p x) (hx : R RT E x u) :
  R RT (baseE E H fp w σ lent) (fAtom L Lc p) u := by
 cases p with
 | unk => exact .unk u
 | bool h => simp only [MatchA] at hm; subst hm; rw [R.bool_inv hx]; exact .bool _
 | int k h => simp only [MatchA] at hm; subst hm; rw [R.int_inv hx]; exact .int _ _
 | fbool h => simp only [MatchA] at hm; subst hm; rw [R.bool_inv hx]; exact .bool _
 | fint k h => simp only [MatchA] at hm; subst hm; rw [R.int_inv hx]; exact .int _ _
 | roi k h => obtain ⟨l,h1,h2⟩ := hm; exact ro_R hs hx h1 h2
 | froi k h => obtain ⟨l,h1,h2⟩ := hm; exact ro_R hs hx h1 h2
 | rro T h => obtain ⟨l,h1,h2⟩ := hm; exact rr_R hs hx h1 h2
 | frro T h => obtain ⟨l,h1,h2⟩ := hm; exact rr_R hs hx h1 h2
 | nilp => simp only [MatchA] at hm; subst hm; cases hx; exact .nilp
 | nils => simp only [MatchA] at hm; subst hm; cases hx; exact .nils
 | ptr t off =>
  obtain ⟨id,rfl,hv⟩ := hm
  cases hx with
  | ptr h => exact R.ptr (by rw [baseE_info hv]; exact h)
 | full t nn =>
  rcases hm with ⟨id,nn',rfl,hn,hv⟩ | ⟨rfl,id,lo,n,rfl,hv⟩ | ⟨rfl,rfl,hv⟩
  ·cases hx with
   | full h hb hn' hc hg => exact R.full (by rw [baseE_info hv]; exact h) hb (fun h => hn' (hn h)) hc hg
  ·cases hx with
   | sub h hw hl hc hb =>
    rename_i cap I base
    refine R.full (I:=⟨I.cb,I.coff + lo,n,n,1,false⟩) (by rw [baseE_info hv]; simp [viewInfo,h]) ?_ (fun h => by simp at h) hc (fun h => by simp at h)
    rcases hb with hb | h0
    ·left; rw [hb,hw,Nat.mul_one]
    ·right; exact ⟨h0,fun h => by simp at h⟩
  ·cases hx
   exact R.full (I:=⟨0,0,0,0,1,true⟩) (by rw [baseE_info hv]; rfl) (Or.inr ⟨rfl,fun _ => rfl⟩) (fun h => by simp at h) (Nat.le_refl _) (fun _ => rfl)
 | ror tag =>
  simp only [MatchA] at hm
  subst hm
  cases hx with
  | ror uu hT hc hx hr =>
   exact R.ror uu hT hc (fun i j hi hj => let ⟨ad,h1,h2,h3⟩ := hx i j hi hj; ⟨ad,h1,h2,baseE_M h3⟩) fun i j hi hj => (hr i j hi hj).simple (fun _ _ h => baseE_M h) (hRT _ _ _ _ hT)
 | fn f =>
  simp only [MatchA] at hm
  subst hm
  cases hx with
  | fn hn hr => exact R.fn hn fun j x hj => by simp at hj
 | ifp ty t off =>
  obtain ⟨id,rfl,hv⟩ := hm
  cases hx with
  | ifa hr =>
   cases hr with
   | ptr h => exact R.ifa (R.ptr (by rw [baseE_info hv]; exact h))
 | fsub t h1 h2 =>
  obtain ⟨id,rfl,hv⟩ := hm
  cases hx with
  | sub h hw hl hc hb => exact R.sub (by rw [baseE_info hv]; exact h) hw hl hc hb
 | clo f ts =>
  obtain ⟨cs,rfl,hq⟩ := hm
  cases hx with
  | fn hn hr =>
   refine R.fn (by rw [hn,cloA_len]; exact hq.length.symm) fun j x hj => ?_
   obtain ⟨q,hts,rfl⟩ := cloA_get hj
   obtain ⟨c,hc,id,rfl,hv⟩ := hq.get hts
   obtain ⟨I,hI,hu⟩ := R.ptr_inv (hr j _ hc)
   rw [hu]
   exact R.ptr (by rw [baseE_info hv]; exact hI)
theorem fAtoms_eq (L Lc : Leaves) : ∀ ps : List Pat,fAtoms L Lc ps = ps.map (fAtom L Lc)
 | [] => rfl
 | p :: ps => by simp [fAtoms,fAtoms_eq L Lc ps]
theorem matchAs_RCs {L Lc : Leaves} {σ : List View} {lent : List Nat} {ps : List Pat} {xs : List Atom} {vs : Array Value} (hRT : RTok RT) (hs : Sim RT E H fp w) (hm : MatchAs H L Lc σ lent ps xs)
  (hc : RCs RT E xs vs) : RCs RT (baseE E H fp w σ lent) (fAtoms L Lc ps) vs := by
 rw [fAtoms_eq]
 refine ⟨by rw [hc.1,<- hm.length]; simp,fun j x hj => ?_⟩
 rw [List.getElem?_map] at hj
 cases hp : ps[j]? with
 | none => simp [hp] at hj
 | some p =>
  simp [hp] at hj
  subst hj
  obtain ⟨z,hz,hr⟩ := hm.get hp
  exact matchA_R hRT hs hr (hc.2 _ _ hz)
theorem matchV_RV {L Lc : Leaves} {σ : List View} {lent : List Nat} {p : VPat} {x : AV} {u : Value} (hRT : RTok RT) (hs : Sim RT E H fp w) (hm : MatchV H L Lc σ lent p x) (hx : RV RT E x u) :
  RV RT (baseE E H fp w σ lent) (fAV L Lc p) u := by
 cases p with
 | «at» p =>
  have key : (∃ b,x = .at b /\ MatchA H L Lc σ lent p b) -> RV RT (baseE E H fp w σ lent) (fAV L Lc (.at p)) u := by
   rintro ⟨b,rfl,hm'⟩
   exact matchA_R (x:=b) hRT hs hm' hx
  cases p <;> first | exact R.unk u | exact key hm
 | agg ps =>
  obtain ⟨as,rfl,hm⟩ := hm
  obtain ⟨vs,rfl,hc⟩ := hx
  exact ⟨vs,rfl,matchAs_RCs hRT hs hm hc⟩
 | tup ps =>
  obtain ⟨as,rfl,hm⟩ := hm
  obtain ⟨vs,rfl,hn,hc⟩ := hx
  have hft : ∀ ps : List (Bool × List Pat),fTup L Lc ps = ps.map fun p => (p.1,fAtoms L Lc p.2) := by
   intro ps
   induction ps with
   | nil => rfl
   | cons p ps ih => obtain ⟨g,q⟩ := p; simp [fTup,ih]
  refine ⟨vs,rfl,by rw [hn,hft,<- hm.length]; simp,fun j q hj => ?_⟩
  rw [hft,List.getElem?_map] at hj
  cases hp : ps[j]? with
  | none => simp [hp] at hj
  | some p =>
   simp [hp] at hj
   subst hj
   obtain ⟨⟨g,z⟩,hz,hg,hr⟩ := hm.get hp
   obtain ⟨g',q⟩ := p
   simp only at hg hr
   subst hg
   have hrp := hc _ _ hz
   cases g' with
   | true =>
    obtain ⟨vs',he,hc'⟩ := hrp
    exact ⟨vs',he,matchAs_RCs hRT hs hr hc'⟩
   | false =>
    match z,hrp,hr with
    | [b],hrp,.cons hb .nil => exact matchA_R (x:=b) hRT hs hb hrp
theorem fHeap_get (L Lc : Leaves) (H0 : Heap) : ∀ {blks : List (Nat × BPat)} {t : Nat} {b : Blk},fHeap L Lc H0 blks t = some b ->
  (∃ q ∈ blks,q.1 = t /\ fBlk L Lc q.2 = some b) \/ (H0 t = some b /\ ∀ q ∈ blks,q.1 ≠ t)
 | [],t,b,h => Or.inr ⟨h,fun q hq => by simp at hq⟩
 | (t',p) :: r,t,b,h => by
  simp only [fHeap] at h
  rw [putH_eq] at h
  split at h
  ·rename_i ht; exact Or.inl ⟨(t',p),by simp,ht.symm,h⟩
  ·rename_i ht
   rcases fHeap_get L Lc H0 h with ⟨q,hq,h1,h2⟩ | ⟨h1,h2⟩
   ·exact Or.inl ⟨q,by simp [hq],h1,h2⟩
   ·refine Or.inr ⟨h1,fun q hq => ?_⟩
    rcases List.mem_cons.1 hq with rfl | hq
    ·exact fun he => ht he.symm
    ·exact h2 q hq
def viewId : View -> Option Nat
 | .whole id => some id
 | .part id _ _ => some id
 | _ => none
theorem beq_ne {a b : Nat} (h : (!Nat.beq a b) = true) : a ≠ b := by
 intro he
 subst he
 simp at h
theorem apartId_get {id : Nat} : ∀ {vs : List View} {t : Nat} {v : View} {id' : Nat},apartId id vs = true -> vs[t]? = some v -> viewId v = some id' -> id ≠ id'
 | [],t,v,id',_,h,_ => by simp at h
 | v0 :: vs,0,v,id',h,hv,hi => by
  simp at hv
  subst hv
  cases v0 with
  | whole i => simp only [viewId,Option.some.injEq] at hi; subst hi; simp only [apartId,Bool.and_eq_true] at h; exact beq_ne h.1
  | part i lo n => simp only [viewId,Option.some.injEq] at hi; subst hi; simp only [apartId,Bool.and_eq_true] at h; exact beq_ne h.1
  | _ => simp [viewId] at hi
 | v0 :: vs,t + 1,v,id',h,hv,hi => by
  simp at hv
  refine apartId_get (vs:=vs) ?_ hv hi
  cases v0 <;> simp only [apartId,Bool.and_eq_true] at h <;> first | exact h.2 | exact h
theorem viewsApart_get : ∀ {vs : List View} {t t' : Nat} {v v' : View} {id id' : Nat},viewsApart vs = true -> t < t' -> vs[t]? = some v -> vs[t']? = some v' ->
  viewId v = some id -> viewId v' = some id' -> id ≠ id'
 | [],t,t',v,v',id,id',_,_,h,_,_,_ => by simp at h
 | v0 :: vs,0,t' + 1,v,v',id,id',h,_,hv,hv',hi,hi' => by
  simp at hv hv'
  subst hv
  cases v0 with
  | whole i => simp only [viewId,Option.some.injEq] at hi; subst hi; simp only [viewsApart,Bool.and_eq_true] at h; exact apartId_get h.1 hv' hi'
  | part i lo n => simp only [viewId,Option.some.injEq] at hi; subst hi; simp only [viewsApart,Bool.and_eq_true] at h; exact apartId_get h.1 hv' hi'
  | _ => simp [viewId] at hi
 | v0 :: vs,0,0,v,v',id,id',_,hlt,_,_,_,_ => by omega
 | v0 :: vs,t + 1,t' + 1,v,v',id,id',h,hlt,hv,hv',hi,hi' => by
  simp at hv hv'
  refine viewsApart_get (vs:=vs) ?_ (by omega) hv hv' hi hi'
  cases v0 <;> simp only [viewsApart,Bool.and_eq_true] at h <;> first | exact h.2 | exact h
 | v0 :: vs,t + 1,0,v,v',id,id',_,hlt,_,_,_,_ => by omega
theorem viewsApart_ne {vs : List View} {t t' : Nat} {v v' : View} {id id' : Nat} (h : viewsApart vs = true) (ht : t ≠ t') (hv : vs[t]? = some v) (hv' : vs[t']? = some v')
  (hi : viewId v = some id) (hi' : viewId v' = some id') : id ≠ id' := by
 rcases Nat.lt_or_ge t t' with hl | hl
 ·exact viewsApart_get h hl hv hv' hi hi'
 ·exact (viewsApart_get h (by omega) hv' hv hi' hi).symm
theorem lentApart_get {σ : List View} : ∀ {l : List Nat} {id t : Nat} {v : View} {id' : Nat},lentApart σ l = true -> id ∈ l -> σ[t]? = some v -> viewId v = some id' -> id ≠ id'
 | [],id,t,v,id',_,h,_,_ => by simp at h
 | i :: l,id,t,v,id',h,hm,hv,hi => by
  simp only [lentApart,Bool.and_eq_true] at h
  rcases List.mem_cons.1 hm with rfl | hm
  ·exact apartId_get h.1 hv hi
  ·exact lentApart_get h.2 hm hv hi
theorem viewFp_sub {v : View} {x : Nat × Nat} (hs : Sim RT E H fp w) {p : BPat} {L Lc : Leaves} {σ : List View} {lent : List Nat} (hm : MatchB H L Lc σ lent p v) (hlo : ∀ id lo n g kd xs,v = .part id lo n -> H id = some (.ints g kd xs) -> lo + n <= xs.length)
  (hx : viewFp E fp v x) : ∃ id b,viewId v = some id /\ H id = some b /\ fp id x := by
 cases v with
 | none => exact hx.elim
 | empty => exact hx.elim
 | whole id =>
  cases p with
  | cells wd ps => obtain ⟨cs,hb,_⟩ := hm; exact ⟨id,_,rfl,hb,hx⟩
  | ints g k h => obtain ⟨g',hb,_⟩ := hm; exact ⟨id,_,rfl,hb,hx⟩
  | fints g k h => obtain ⟨g',hb,_⟩ := hm; exact ⟨id,_,rfl,hb,hx⟩
  | recs g T h =>
   rcases hm with ⟨g',hb,_⟩ | ⟨_,kd,xss,i,b,gb,ys,_,hb,_⟩
   ·exact ⟨id,_,rfl,hb,hx⟩
   ·exact ⟨id,_,rfl,hb,hx⟩
  | frecs g T h => obtain ⟨g',hb,_⟩ := hm; exact ⟨id,_,rfl,hb,hx⟩
  | fhole k h hi t => obtain ⟨b,hb,_⟩ := hm; exact ⟨id,_,rfl,hb,hx⟩
  | dead => exact hm.elim
 | part id lo n =>
  have hb : ∃ g' kd xs,H id = some (.ints g' kd xs) := by
   cases p with
   | ints g k h => obtain ⟨_,g',xs,hb,_⟩ := hm; exact ⟨g',_,xs,hb⟩
   | fints g k h => obtain ⟨_,g',xs,hb,_⟩ := hm; exact ⟨g',_,xs,hb⟩
   | _ => exact hm.elim
  obtain ⟨g',kd,xs,hb⟩ := hb
  obtain ⟨I,hI,ho⟩ := hx
  obtain ⟨J,hJ,ok⟩ := hs.blk _ _ hb
  rw [hI] at hJ
  obtain rfl := Option.some.inj hJ
  have hl := hlo _ _ _ _ _ _ rfl hb
  refine ⟨id,_,rfl,hb,(ok.own _).2 ?_⟩
  obtain ⟨h1,h2,h3⟩ := ho
  obtain ⟨hw,hn,_⟩ := ok.kind
  have hc := ok.cap
  simp only [Bool.false_eq_true,if_false,Nat.mul_one] at h1 h2 h3
  refine ⟨h1,by omega,?_⟩
  rw [hw]
  split <;> omega
theorem Sim.base {L Lc : Leaves} {σ : List View} {lent : List Nat} {blks : List (Nat × BPat)} (hRT : RTok RT) (hs : Sim RT E H fp w)
  (hm : ∀ q ∈ blks,q.2 = .dead \/ ∃ v,σ[q.1]? = some v /\ MatchB H L Lc σ lent q.2 v) (ha : viewsApart σ = true) (hl : lentApart σ lent = true)
  (hp : ∀ (t id lo n : Nat) g kd xs,σ[t]? = some (.part id lo n) -> H id = some (.ints g kd xs) -> lo + n <= xs.length) :
  Sim RT (baseE E H fp w σ lent) (fHeap L Lc noHeap blks) (baseFp E fp σ) w := by
 have hget : ∀ {t : Nat} {b : Blk},fHeap L Lc noHeap blks t = some b -> ∃ q v,q ∈ blks /\ q.1 = t /\ fBlk L Lc q.2 = some b /\ σ[t]? = some v /\ MatchB H L Lc σ lent q.2 v := by
  intro t b hb
  rcases fHeap_get L Lc noHeap hb with ⟨q,hq,rfl,h2⟩ | ⟨h1,_⟩
  ·rcases hm q hq with hd | ⟨v,h3,h4⟩
   ·rw [hd] at h2; simp [fBlk] at h2
   ·exact ⟨q,v,hq,rfl,h2,h3,h4⟩
  ·simp [noHeap] at h1
 have hsub : ∀ {t : Nat} {b : Blk} {x : Nat × Nat},fHeap L Lc noHeap blks t = some b -> baseFp E fp σ t x -> ∃ v id b',σ[t]? = some v /\ viewId v = some id /\ H id = some b' /\ fp id x := by
  intro t b x hb hx
  obtain ⟨q,v,_,_,_,hv,hM⟩ := hget hb
  simp only [baseFp,hv] at hx
  obtain ⟨id,b',h1,h2,h3⟩ := viewFp_sub hs hM (fun id lo n g kd xs he hb' => by subst he; exact hp _ _ _ _ _ _ _ hv hb') hx
  exact ⟨v,id,b',hv,h1,h2,h3⟩
 refine ⟨fun t b hb => ?_,fun i j b c x hb hc hij hx hy => ?_,fun ad v h => ?_⟩
 ·obtain ⟨⟨t',p⟩,v,hq,ht,hfb,hv,hM⟩ := hget hb
  simp only at ht hfb hM
  subst ht
  cases v with
  | none => cases p <;> exact hM.elim
  | whole id =>
   have key : ∀ b0,H id = some b0 -> ∃ I,(baseE E H fp w σ lent).info t' = some I /\ BlkOK RT E b0 I (fp id) w := by
    intro b0 hb0
    obtain ⟨I,hI,ok⟩ := hs.blk _ _ hb0
    exact ⟨I,by rw [baseE_info hv]; exact hI,ok⟩
   have hfp : baseFp E fp σ t' = fp id := by funext x; simp [baseFp,hv,viewFp]
   rw [hfp]
   cases p with
   | cells wd ps =>
    obtain ⟨cs,hb0,hma⟩ := hM
    obtain ⟨I,hI,ok⟩ := key _ hb0
    simp only [fBlk,Option.some.injEq] at hfb
    subst hfb
    obtain ⟨k1,k2,k3,k4⟩ := ok.kind
    refine ⟨I,hI,⟨ok.own,ok.cap,ok.live,k1,by rw [k2,fAtoms_eq,<- hma.length]; simp,k3,fun j x hj => ?_⟩⟩
    rw [fAtoms_eq,List.getElem?_map] at hj
    cases hpj : ps[j]? with
    | none => simp [hpj] at hj
    | some p =>
     simp [hpj] at hj
     subst hj
     obtain ⟨z,hz,hr⟩ := hma.get hpj
     obtain ⟨u,hu,hru⟩ := k4 j z hz
     exact ⟨u,hu,matchA_R hRT hs hr hru⟩
   | ints g kd h =>
    obtain ⟨g',hb0,hgg⟩ := hM
    obtain ⟨I,hI,ok⟩ := key _ hb0
    simp only [fBlk,Option.some.injEq] at hfb
    subst hfb
    obtain ⟨k1,k2,k3,k4⟩ := ok.kind
    exact ⟨I,hI,⟨ok.own,ok.cap,ok.live,k1,k2,fun h => k3 (hgg h),k4⟩⟩
   | fints g kd h =>
    obtain ⟨g',hb0,hgg⟩ := hM
    obtain ⟨I,hI,ok⟩ := key _ hb0
    simp only [fBlk,Option.some.injEq] at hfb
    subst hfb
    obtain ⟨k1,k2,k3,k4⟩ := ok.kind
    exact ⟨I,hI,⟨ok.own,ok.cap,ok.live,k1,k2,fun h => k3 (hgg h),k4⟩⟩
   | recs g T h =>
    simp only [fBlk,Option.some.injEq] at hfb
    subst hfb
    rcases hM with ⟨g',hb0,hgg⟩ | ⟨rfl,kd,xss,i0,b0,gb,ys,rfl,hb0,hbb,hlent,hr⟩
    ·obtain ⟨I,hI,ok⟩ := key _ hb0
     obtain ⟨k1,k2,k3,k4⟩ := ok.kind
     exact ⟨I,hI,⟨ok.own,ok.cap,ok.live,k1,k2,fun h => k3 (hgg h),fun i j x hi hj => let ⟨u,hu,hru⟩ := k4 i j x hi hj; ⟨u,hu,recA_R hj (fun _ _ h => baseE_M h) hru⟩⟩⟩
    ·obtain ⟨I,hI,ok⟩ := key _ hb0
     obtain ⟨k1,k2,k3⟩ := ok.kind
     refine ⟨I,hI,⟨ok.own,ok.cap,ok.live,k1,by rw [hr,List.length_set]; exact k2,fun h => by simp at h,fun i j x hi hj => ?_⟩⟩
     rw [hr,List.length_set] at hi
     obtain ⟨u,hu,hru⟩ := k3 i hi
     cases j with
     | succ j => simp [recA,recAs] at hj
     | zero =>
      simp only [recA,recAs,List.getElem?_cons_zero,Option.some.injEq] at hj
      subst hj
      refine ⟨u,by rw [k1,Nat.mul_one,Nat.add_zero]; exact hu,?_⟩
      rw [hr]
      by_cases hii : i = i0
      ·subst hii
       rw [if_pos rfl] at hru
       have hm : MatchA H ⟨L.i,L.b,fun _ => ys,L.r⟩ Lc σ lent (.roi kd 0) (.full b0 true) := ⟨some b0,by simp [RoA,roA,hbb,gate,eqK_iff.2 rfl],fun id hid => by simp at hid; subst hid; exact hlent⟩
       have := matchA_R hRT hs hm hru
       simp only [fAtom] at this
       rw [List.getD_eq_getElem?_getD,List.getElem?_set_self hi]
       exact this
      ·rw [if_neg hii] at hru
       rw [List.getD_eq_getElem?_getD,List.getElem?_set_ne (Ne.symm hii),<- List.getD_eq_getElem?_getD]
       exact roi_R (fun _ _ h => baseE_M h) hru
   | frecs g T h =>
    obtain ⟨g',hb0,hgg⟩ := hM
    simp only [fBlk,Option.some.injEq] at hfb
    subst hfb
    obtain ⟨I,hI,ok⟩ := key _ hb0
    obtain ⟨k1,k2,k3,k4⟩ := ok.kind
    exact ⟨I,hI,⟨ok.own,ok.cap,ok.live,k1,k2,fun h => k3 (hgg h),fun i j x hi hj => let ⟨u,hu,hru⟩ := k4 i j x hi hj; ⟨u,hu,recA_R hj (fun _ _ h => baseE_M h) hru⟩⟩⟩
   | fhole kd h hi t =>
    obtain ⟨b0,hb0,hv0⟩ := hM
    simp only [fBlk,Option.some.injEq] at hfb
    subst hfb
    obtain ⟨I,hI,ok⟩ := key _ hb0
    obtain ⟨k1,k2,k3⟩ := ok.kind
    refine ⟨I,hI,⟨ok.own,ok.cap,ok.live,k1,k2,fun i hi => ?_⟩⟩
    obtain ⟨u,hu,hru⟩ := k3 i hi
    refine ⟨u,hu,?_⟩
    split at hru
    ·rename_i he
     rw [if_pos he]
     have hm : MatchA H L Lc σ lent (.full t true) (.full b0 true) := Or.inl ⟨b0,true,rfl,fun _ => rfl,hv0⟩
     exact matchA_R hRT hs hm hru
    ·rename_i he
     rw [if_neg he]
     exact roi_R (fun _ _ h => baseE_M h) hru
   | dead => exact hM.elim
  | part id lo n =>
   have key : ∀ g kd xs zs,H id = some (.ints g kd xs) -> zs = (xs.drop lo).take n -> ∃ I,(baseE E H fp w σ lent).info t' = some I /\ BlkOK RT (baseE E H fp w σ lent) (.ints false kd zs) I (baseFp E fp σ t') w := by
    intro g kd xs zs hb0 hzs
    have hln := hp _ _ _ _ _ _ _ hv hb0
    obtain ⟨I,hI,ok⟩ := hs.blk _ _ hb0
    obtain ⟨k1,k2,k3,k4⟩ := ok.kind
    have hc := ok.cap
    have hlen : zs.length = n := by rw [hzs]; simp; omega
    refine ⟨⟨I.cb,I.coff + lo,n,n,1,false⟩,by rw [baseE_info hv]; simp [viewInfo,hI],⟨fun x => ?_,Nat.le_refl _,fun x hx => ?_,rfl,hlen.symm,fun h => by simp at h,fun j hj => ?_⟩⟩
    ·simp [baseFp,hv,viewFp,hI]
    ·simp only [baseFp,hv,viewFp,hI,Option.some.injEq,exists_eq_left'] at hx
     obtain ⟨h1,h2,h3⟩ := hx
     simp only [Bool.false_eq_true,if_false,Nat.mul_one] at h1 h2 h3
     refine ok.live x ((ok.own x).2 ⟨h1,by omega,?_⟩)
     rw [k1]
     split <;> omega
    ·have hj' : j < n := by omega
     have := k4 (lo + j) (by omega)
     simp only
     rw [Nat.add_assoc,this,hzs]
     simp [List.getD_eq_getElem?_getD,List.getElem?_take_of_lt hj',List.getElem?_drop]
   cases p with
   | ints g kd h =>
    obtain ⟨rfl,g',xs,hb0,hz⟩ := hM
    simp only [fBlk,Option.some.injEq] at hfb
    subst hfb
    exact key _ _ _ _ hb0 hz
   | fints g kd h =>
    obtain ⟨rfl,g',xs,hb0,hz⟩ := hM
    simp only [fBlk,Option.some.injEq] at hfb
    subst hfb
    exact key _ _ _ _ hb0 hz
   | _ => exact hM.elim
  | empty =>
   have key : ∀ g kd zs,zs = [] -> ∃ I,(baseE E H fp w σ lent).info t' = some I /\ BlkOK RT (baseE E H fp w σ lent) (.ints g kd zs) I (baseFp E fp σ t') w := by
    rintro g kd zs rfl
    refine ⟨⟨0,0,0,0,1,true⟩,by rw [baseE_info hv]; rfl,⟨fun x => ?_,Nat.le_refl _,fun x hx => ?_,rfl,rfl,fun _ => rfl,fun j hj => by simp at hj⟩⟩
    ·simp [baseFp,hv,viewFp,Own]
    ·simp [baseFp,hv,viewFp] at hx
   cases p with
   | ints g kd h => simp only [fBlk,Option.some.injEq] at hfb; subst hfb; exact key _ _ _ hM
   | fints g kd h => simp only [fBlk,Option.some.injEq] at hfb; subst hfb; exact key _ _ _ hM
   | _ => exact hM.elim
 ·obtain ⟨v,id,b',h1,h2,h3,h4⟩ := hsub hb hx
  obtain ⟨v',id',b'',g1,g2,g3,g4⟩ := hsub hc hy
  exact hs.disj _ _ _ _ x h3 g3 (viewsApart_ne ha hij h1 g1 h2 g2) h4 g4
 ·cases hm' : E.M ad with
  | some u =>
   rw [baseE_M hm'] at h
   obtain rfl := Option.some.inj h
   obtain ⟨h1,h2,h3⟩ := hs.ro ad u hm'
   refine ⟨h1,h2,fun t b hb hx => ?_⟩
   obtain ⟨v,id,b',_,_,g3,g4⟩ := hsub hb hx
   exact h3 id b' g3 g4
  | none =>
   simp only [baseE,hm'] at h
   split at h
   ·rename_i hc
    obtain ⟨hsp,id,b,hid,hb,hf⟩ := hc
    refine ⟨hsp,h,fun t b' hb' hx => ?_⟩
    obtain ⟨v,id',b'',g1,g2,g3,g4⟩ := hsub hb' hx
    exact hs.disj _ _ _ _ _ hb g3 (lentApart_get hl hid g1 g2) hf g4
   ·simp at h
end Go.Eng
/-
 The engine, part seven: a call by its callee's shape.
 Conditions: none; nothing is claimed of the program here.
-/
namespace Go.Eng
variable {RT : RoTab} {E : Env} {F : Fr} {a : Act} {H : Heap} {fp : Fp} {w : World} {P : Program} {Y : Type} {y : Y}
theorem mem_iff : ∀ {l : List Nat} {x : Nat},mem l x = true ↔ x ∈ l
 | [],x => by simp [mem]
 | z :: r,x => by
  simp only [mem]
  split
  ·rename_i h
   have := Nat.eq_of_beq_eq_true h
   simp [this]
  ·rename_i h
   have hne : x ≠ z := fun he => by subst he; simp at h
   rw [mem_iff (l:=r)]
   simp [hne]
def plainP : Pat -> Bool
 | .ror _ => false
 | _ => true
def noFixP : Pat -> Bool
 | .fbool _ | .fint _ _ | .froi _ _ | .frro _ _ | .fsub _ _ _ => false
 | _ => true
def allP (f : Pat -> Bool) : List Pat -> Bool
 | [] => true
 | p :: r => f p && allP f r
def allT (f : Pat -> Bool) : List (Bool × List Pat) -> Bool
 | [] => true
 | (_,ps) :: r => allP f ps && allT f r
def allV (f : Pat -> Bool) : VPat -> Bool
 | .at p => f p
 | .agg ps => allP f ps
 | .tup ps => allT f ps
def allVs (f : Pat -> Bool) : List VPat -> Bool
 | [] => true
 | p :: r => allV f p && allVs f r
def allB (f : Pat -> Bool) : List (Nat × BPat) -> Bool
 | [] => true
 | (_,.cells _ ps) :: r => allP f ps && allB f r
 | _ :: r => allB f r
def noFixB : List (Nat × BPat) -> Bool
 | [] => true
 | (_,.fints _ _ _) :: _ => false
 | (_,.frecs _ _ _) :: _ => false
 | (_,.fhole _ _ _ _) :: _ => false
 | _ :: r => noFixB r
def below (n : Nat) : List (Nat × BPat) -> Bool
 | [] => true
 | (t,_) :: r => Nat.blt t n && below n r
def upTo (l : List Nat) : Nat -> Bool
 | 0 => true
 | n + 1 => mem l n && upTo l n
def specOk (s : Spec) : Bool :=
 allVs plainP s.args && (allB plainP s.pre && (allB plainP s.post && (allV plainP s.ret && (allVs noFixP s.args && (allB noFixP s.pre && (noFixB s.pre &&
  (distinct (ids s.post) && (below (s.n + len s.post) s.post && (upTo (ids s.post) s.n && (upTo (idsLive s.pre) s.n && distinct (ids s.pre)))))))))))
theorem allP_get {f : Pat -> Bool} : ∀ {ps : List Pat} {p : Pat},allP f ps = true -> p ∈ ps -> f p = true
 | [],p,_,h => by simp at h
 | q :: r,p,h,hm => by
  simp only [allP,Bool.and_eq_true] at h
  rcases List.mem_cons.1 hm with rfl | hm
  ·exact h.1
  ·exact allP_get h.2 hm
theorem fAtom_noFix {L Lc Lc' : Leaves} {p : Pat} (h : noFixP p = true) : fAtom L Lc p = fAtom L Lc' p := by
 cases p <;> first | rfl | simp [noFixP] at h
theorem fAtoms_noFix {L Lc Lc' : Leaves} : ∀ {ps : List Pat},allP noFixP ps = true -> fAtoms L Lc ps = fAtoms L Lc' ps
 | [],_ => rfl
 | p :: r,h => by
  simp only [allP,Bool.and_eq_true] at h
  rw [fAtoms,fAtoms,fAtom_noFix h.1,fAtoms_noFix h.2]
theorem fTup_noFix {L Lc Lc' : Leaves} : ∀ {ps : List (Bool × List Pat)},allT noFixP ps = true -> fTup L Lc ps = fTup L Lc' ps
 | [],_ => rfl
 | (g,p) :: r,h => by
  simp only [allT,Bool.and_eq_true] at h
  rw [fTup,fTup,fAtoms_noFix h.1,fTup_noFix h.2]
theorem fAV_noFix {L Lc Lc' : Leaves} {p : VPat} (h : allV noFixP p = true) : fAV L Lc p = fAV L Lc' p := by
 cases p with
 | «at» p => rw [fAV,fAV,fAtom_noFix h]
 | agg ps => rw [fAV,fAV,fAtoms_noFix h]
 | tup ps => rw [fAV,fAV,fTup_noFix h]
theorem fHeap_noFix {L Lc Lc' : Leaves} {H0 : Heap} : ∀ {bs : List (Nat × BPat)},allB noFixP bs = true -> noFixB bs = true -> fHeap L Lc H0 bs = fHeap L Lc' H0 bs
 | [],_,_ => rfl
 | (t,p) :: r,h,h' => by
  cases p with
  | cells wd ps =>
   simp only [allB,Bool.and_eq_true] at h
   rw [fHeap,fHeap,fHeap_noFix h.2 h',fBlk,fBlk,fAtoms_noFix h.1]
  | ints g k i => have ih := fHeap_noFix (L:=L) (Lc:=Lc) (Lc' := Lc') (H0:=H0) (bs:=r) h h'; simp only [fHeap,ih]; rfl
  | recs g T i => have ih := fHeap_noFix (L:=L) (Lc:=Lc) (Lc' := Lc') (H0:=H0) (bs:=r) h h'; simp only [fHeap,ih]; rfl
  | dead => have ih := fHeap_noFix (L:=L) (Lc:=Lc) (Lc' := Lc') (H0:=H0) (bs:=r) h h'; simp only [fHeap,ih]; rfl
  | fints g k i => simp [noFixB] at h'
  | frecs g T i => simp [noFixB] at h'
  | fhole k i hi t => simp [noFixB] at h'
theorem fAtom_RT {RT' : RoTab} {L Lc : Leaves} {p : Pat} {u : Value} (hp : plainP p = true) (h : R RT E (fAtom L Lc p) u) : R RT' E (fAtom L Lc p) u := by
 cases p with
 | unk => exact .unk u
 | bool i => rw [R.bool_inv h]; exact .bool _
 | int k i => rw [R.int_inv h]; exact .int _ _
 | fbool i => rw [R.bool_inv h]; exact .bool _
 | fint k i => rw [R.int_inv h]; exact .int _ _
 | roi k i => simp only [fAtom] at h ⊢; cases h with | roi hc hx => exact .roi hc hx
 | froi k i => simp only [fAtom] at h ⊢; cases h with | roi hc hx => exact .roi hc hx
 | rro T i => simp only [fAtom] at h ⊢; exact rro_R (fun _ _ h => h) h
 | frro T i => simp only [fAtom] at h ⊢; exact rro_R (fun _ _ h => h) h
 | nilp => simp only [fAtom] at h ⊢; cases h; exact .nilp
 | nils => simp only [fAtom] at h ⊢; cases h; exact .nils
 | ptr t off => simp only [fAtom] at h ⊢; cases h with | ptr h => exact .ptr h
 | full t nn => simp only [fAtom] at h ⊢; cases h with | full h hb hn hc hg => exact .full h hb hn hc hg
 | ror tag => simp [plainP] at hp
 | fn f => simp only [fAtom] at h ⊢; cases h with | fn hn hr => exact .fn hn fun j x hj => by simp at hj
 | ifp ty t off => simp only [fAtom] at h ⊢; cases h with | ifa hr => cases hr with | ptr h => exact .ifa (.ptr h)
 | fsub t h1 h2 => simp only [fAtom] at h ⊢; cases h with | sub h hw hl hc hb => exact .sub h hw hl hc hb
 | clo f ts =>
  simp only [fAtom] at h ⊢
  cases h with
  | fn hn hr =>
   refine R.fn hn fun j x hj => ?_
   obtain ⟨q,hts,rfl⟩ := cloA_get hj
   obtain ⟨I,hI,hu⟩ := R.ptr_inv (hr j _ hj)
   rw [hu]
   exact R.ptr hI
theorem fAtoms_RT {RT' : RoTab} {L Lc : Leaves} {ps : List Pat} {vs : Array Value} (hp : allP plainP ps = true) (h : RCs RT E (fAtoms L Lc ps) vs) : RCs RT' E (fAtoms L Lc ps) vs := by
 refine ⟨h.1,fun j x hj => ?_⟩
 have := h.2 j x hj
 rw [fAtoms_eq,List.getElem?_map] at hj
 cases hq : ps[j]? with
 | none => simp [hq] at hj
 | some p =>
  simp [hq] at hj
  subst hj
  exact fAtom_RT (allP_get hp (List.mem_of_getElem? hq)) this
theorem allT_get {f : Pat -> Bool} : ∀ {ps : List (Bool × List Pat)} {p : Bool × List Pat},allT f ps = true -> p ∈ ps -> allP f p.2 = true
 | [],p,_,h => by simp at h
 | (g,q) :: r,p,h,hm => by
  simp only [allT,Bool.and_eq_true] at h
  rcases List.mem_cons.1 hm with rfl | hm
  ·exact h.1
  ·exact allT_get h.2 hm
theorem fTup_eq (L Lc : Leaves) : ∀ ps : List (Bool × List Pat),fTup L Lc ps = ps.map fun p => (p.1,fAtoms L Lc p.2)
 | [] => rfl
 | (g,q) :: r => by simp [fTup,fTup_eq L Lc r]
theorem fAV_RT {RT' : RoTab} {L Lc : Leaves} {p : VPat} {u : Value} (hp : allV plainP p = true) (h : RV RT E (fAV L Lc p) u) : RV RT' E (fAV L Lc p) u := by
 cases p with
 | «at» p => exact fAtom_RT (p:=p) hp h
 | agg ps => obtain ⟨vs,rfl,hc⟩ := h; exact ⟨vs,rfl,fAtoms_RT hp hc⟩
 | tup ps =>
  obtain ⟨vs,rfl,hn,hc⟩ := h
  refine ⟨vs,rfl,hn,fun j q hj => ?_⟩
  have := hc j q hj
  rw [fTup_eq,List.getElem?_map] at hj
  cases hq : ps[j]? with
  | none => simp [hq] at hj
  | some p =>
   simp [hq] at hj
   subst hj
   obtain ⟨g,ps'⟩ := p
   have hpl := allT_get hp (List.mem_of_getElem? hq)
   simp only at this hpl ⊢
   cases g with
   | true => obtain ⟨vs',he,hc'⟩ := this; exact ⟨vs',he,fAtoms_RT hpl hc'⟩
   | false =>
    match ps',this,hpl with
    | [p1],this,hpl =>
     simp only [allP,Bool.and_eq_true] at hpl
     exact fAtom_RT (p:=p1) hpl.1 this
theorem fBlk_RT {RT' : RoTab} {L Lc : Leaves} {p : BPat} {b : Blk} {I : Info} {f : Nat × Nat -> Prop} (hp : ∀ wd ps,p = .cells wd ps -> allP plainP ps = true) (hb : fBlk L Lc p = some b) (h : BlkOK RT E b I f w) :
  BlkOK RT' E b I f w where
 own := h.own
 cap := h.cap
 live := h.live
 kind := by
  have hk := h.kind
  cases p with
  | cells wd ps =>
   simp only [fBlk,Option.some.injEq] at hb
   subst hb
   refine ⟨hk.1,hk.2.1,hk.2.2.1,fun j x hj => ?_⟩
   obtain ⟨v,hv,hr⟩ := hk.2.2.2 j x hj
   refine ⟨v,hv,?_⟩
   rw [fAtoms_eq,List.getElem?_map] at hj
   cases hq : ps[j]? with
   | none => simp [hq] at hj
   | some p =>
    simp [hq] at hj
    subst hj
    exact fAtom_RT (allP_get (hp _ _ rfl) (List.mem_of_getElem? hq)) hr
  | ints g k i => simp only [fBlk,Option.some.injEq] at hb; subst hb; exact hk
  | fints g k i => simp only [fBlk,Option.some.injEq] at hb; subst hb; exact hk
  | recs g T i =>
   simp only [fBlk,Option.some.injEq] at hb; subst hb
   exact ⟨hk.1,hk.2.1,hk.2.2.1,fun i j x hi hj => let ⟨v,hv,hr⟩ := hk.2.2.2 i j x hi hj; ⟨v,hv,recA_R hj (fun _ _ h => h) hr⟩⟩
  | frecs g T i =>
   simp only [fBlk,Option.some.injEq] at hb; subst hb
   exact ⟨hk.1,hk.2.1,hk.2.2.1,fun i j x hi hj => let ⟨v,hv,hr⟩ := hk.2.2.2 i j x hi hj; ⟨v,hv,recA_R hj (fun _ _ h => h) hr⟩⟩
  | fhole k i hi t =>
   simp only [fBlk,Option.some.injEq] at hb; subst hb
   refine ⟨hk.1,hk.2.1,fun i hi => ?_⟩
   obtain ⟨v,hv,hr⟩ := hk.2.2 i hi
   refine ⟨v,hv,?_⟩
   split at hr
   ·rename_i he; rw [if_pos he]; cases hr with | full h hb hn hc hg => exact .full h hb hn hc hg
   ·rename_i he; rw [if_neg he]; exact roi_R (fun _ _ h => h) hr
  | dead => simp [fBlk] at hb
theorem allB_get {f : Pat -> Bool} : ∀ {bs : List (Nat × BPat)} {q : Nat × BPat} {wd : Nat} {ps : List Pat},allB f bs = true -> q ∈ bs -> q.2 = .cells wd ps -> allP f ps = true
 | [],q,_,_,_,h,_ => by simp at h
 | (t,p) :: r,q,wd,ps,h,hm,he => by
  rcases List.mem_cons.1 hm with rfl | hm
  ·simp only at he
   subst he
   simp only [allB,Bool.and_eq_true] at h
   exact h.1
  ·refine allB_get (bs:=r) ?_ hm he
   cases p <;> simp only [allB,Bool.and_eq_true] at h <;> first | exact h.2 | exact h
theorem Sim.anyRT {RT' : RoTab} {L Lc : Leaves} {bs : List (Nat × BPat)} (hp : allB plainP bs = true) (hs : Sim RT E (fHeap L Lc noHeap bs) fp w) : Sim RT' E (fHeap L Lc noHeap bs) fp w where
 blk := fun t b hb => by
  obtain ⟨I,hI,ok⟩ := hs.blk t b hb
  rcases fHeap_get L Lc noHeap hb with ⟨q,hq,_,h2⟩ | ⟨h1,_⟩
  ·exact ⟨I,hI,fBlk_RT (fun wd ps he => allB_get hp hq he) h2 ok⟩
  ·simp [noHeap] at h1
 disj := hs.disj
 ro := hs.ro
def noRT : RoTab := fun _ => none
structure CallOK (P : Program) (f : FuncId) (s : Spec) : Prop where
 ok : specOk s = true
 cps : ∀ (N : Nat) (L : Leaves) (Y : Type) (k : Leaves -> Option Y),s.run N L k = obind (s.run N L some) k
 calls : ∀ (N : Nat) (L L' : Leaves) (E : Env) (fp : Fp) (w : World) (args : Array Value),s.run N L some = some L' -> Sim noRT E (fHeap L L noHeap s.pre) fp w ->
  All2 (RV noRT E) (fAVs L L s.args) args.toList -> Fresh E s.n ->
  Calls P f args w fun e w' => ∃ E' fp' u,e = .returned u /\ RV noRT E' (fAV L' L s.ret) u /\ Sim noRT E' (fHeap L' L noHeap s.post) fp' w' /\
   Frm w (OwnAll (fHeap L L noHeap s.pre) fp) w' /\ (∀ x,OwnAll (fHeap L' L noHeap s.post) fp' x -> x.1 < w.heap.size -> OwnAll (fHeap L L noHeap s.pre) fp x) /\
   (∀ t,t < s.n -> t ∈ idsLive s.post -> E'.info t = E.info t) /\ (∀ a v,E.M a = some v -> E'.M a = some v) /\ MExt E (fHeap L L noHeap s.pre) fp w E'
def tgt (σ : List View) (n nx t : Nat) : Option Nat :=
 match Nat.blt t n with
 | true => match nth σ t with
  | some (.whole id) => some id
  | some (.part id _ _) => some id
  | _ => none
 | false => some (nx + (t - n))
def partB (lo n : Nat) : Option Blk -> Option Blk -> Option Blk
 | some (.ints g kd xs),some (.ints _ kd' ys) => match eqK kd kd' with
  | true => some (.ints g kd (xs.take lo ++ (ys ++ xs.drop (lo + n))))
  | false => none
 | _,_ => none
def postAt (ro : Bool) (ρ : Nat -> Option Nat) (σ : List View) (n t : Nat) (b o : Option Blk) : Option Blk :=
 match Nat.blt t n with
 | true => match nth σ t with
  | some (.part _ lo m) => partB lo m o b
  | _ => renBlk ro ρ b
 | false => renBlk ro ρ b
theorem postBlk_eq {ro : Bool} {ρ : Nat -> Option Nat} {σ : List View} {n nx t : Nat} {b : Option Blk} : postBlk ro ρ σ n nx t b H = match tgt σ n nx t with
  | some id => putH H id (postAt ro ρ σ n t b (H id))
  | none => H := by
 unfold postBlk tgt postAt
 cases h : Nat.blt t n with
 | false => rfl
 | true =>
  simp only
  cases hv : nth σ t with
  | none => rfl
  | some v =>
   cases v with
   | none => rfl
   | empty => rfl
   | whole id => rfl
   | part id lo m =>
    simp only
    cases ho : H id with
    | none => rfl
    | some o =>
     cases o with
     | ints g kd xs =>
      cases b with
      | none => rfl
      | some b => cases b <;> rfl
     | _ => rfl
theorem postBlk_other {ro : Bool} {ρ : Nat -> Option Nat} {σ : List View} {n nx t id : Nat} {b : Option Blk} (h : tgt σ n nx t ≠ some id) : postBlk ro ρ σ n nx t b H id = H id := by
 rw [postBlk_eq]
 split
 ·rename_i i hi
  exact putH_other fun he => h (by rw [he,hi])
 ·rfl
theorem postBlk_same {ro : Bool} {ρ : Nat -> Option Nat} {σ : List View} {n nx t id : Nat} {b : Option Blk} (h : tgt σ n nx t = some id) : postBlk ro ρ σ n nx t b H id = postAt ro ρ σ n t b (H id) := by
 rw [postBlk_eq,h]
 simp only [putH_same]
theorem distinct_cons {t : Nat} {l : List Nat} (h : distinct (t :: l) = true) : t ∉ l /\ distinct l = true := by
 simp only [distinct,Bool.and_eq_true,Bool.not_eq_true'] at h
 refine ⟨fun hm => ?_,h.2⟩
 rw [mem_iff.2 hm] at h
 simp at h
theorem ids_mem : ∀ {l : List (Nat × BPat)} {t : Nat},t ∈ ids l ↔ ∃ p,(t,p) ∈ l
 | [],t => by simp [ids]
 | (t',p') :: r,t => by
  simp only [ids,List.mem_cons,ids_mem (l:=r)]
  constructor
  ·rintro (rfl | ⟨p,hp⟩)
   ·exact ⟨p',Or.inl rfl⟩
   ·exact ⟨p,Or.inr hp⟩
  ·rintro ⟨p,hp | hp⟩
   ·simp only [Prod.mk.injEq] at hp; exact Or.inl hp.1
   ·exact Or.inr ⟨p,hp⟩
theorem postBlks_get (H : Heap) {ro : Bool} {ρ : Nat -> Option Nat} {σ : List View} {n nx : Nat} {L Lc : Leaves} (hinj : ∀ t t' id,tgt σ n nx t = some id -> tgt σ n nx t' = some id -> t = t') :
  ∀ {ps : List (Nat × BPat)} {id : Nat},distinct (ids ps) = true ->
   (∃ t p,(t,p) ∈ ps /\ tgt σ n nx t = some id /\ postBlks ro ρ σ n nx L Lc ps H id = postAt ro ρ σ n t (fBlk L Lc p) (H id)) \/
   ((∀ t p,(t,p) ∈ ps -> tgt σ n nx t ≠ some id) /\ postBlks ro ρ σ n nx L Lc ps H id = H id)
 | [],id,_ => Or.inr ⟨fun t p h => by simp at h,rfl⟩
 | (t,p) :: ps,id,hd => by
  obtain ⟨hn,hd'⟩ := distinct_cons (t:=t) (l:=ids ps) hd
  have ih := postBlks_get H (ro:=ro) (ρ:=ρ) (L:=L) (Lc:=Lc) hinj (ps:=ps) (id:=id) hd'
  simp only [postBlks]
  by_cases ht : tgt σ n nx t = some id
  ·refine Or.inl ⟨t,p,by simp,ht,?_⟩
   rw [postBlk_same ht]
   rcases ih with ⟨t',p',hm,ht',_⟩ | ⟨_,h⟩
   ·have := hinj _ _ _ ht ht'
    subst this
    exact absurd (ids_mem.2 ⟨p',hm⟩) hn
   ·rw [h]
  ·rw [postBlk_other ht]
   rcases ih with ⟨t',p',hm,ht',h⟩ | ⟨h1,h2⟩
   ·exact Or.inl ⟨t',p',by simp [hm],ht',h⟩
   ·refine Or.inr ⟨fun t' p' hm => ?_,h2⟩
    rcases List.mem_cons.1 hm with he | hm
    ·simp only [Prod.mk.injEq] at he; rw [he.1]; exact ht
    ·exact h1 t' p' hm
theorem idsLive_mem : ∀ {l : List (Nat × BPat)} {t : Nat} {p : BPat},(t,p) ∈ l -> p ≠ .dead -> t ∈ idsLive l
 | [],t,p,h,_ => by simp at h
 | (t',p') :: r,t,p,h,hd => by
  rcases List.mem_cons.1 h with he | hm
  ·simp only [Prod.mk.injEq] at he
   obtain ⟨rfl,rfl⟩ := he
   cases p <;> simp [idsLive] at hd ⊢
  ·have := idsLive_mem hm hd
   cases p' <;> simp [idsLive,this]
theorem below_mem {n : Nat} : ∀ {l : List (Nat × BPat)} {t : Nat} {p : BPat},below n l = true -> (t,p) ∈ l -> t < n
 | [],t,p,_,h => by simp at h
 | (t',p') :: r,t,p,h,hm => by
  simp only [below,Bool.and_eq_true] at h
  rcases List.mem_cons.1 hm with he | hm
  ·simp only [Prod.mk.injEq] at he
   rw [he.1]
   simpa [Nat.blt,Nat.succ_le_iff] using h.1
  ·exact below_mem h.2 hm
theorem upTo_mem {l : List Nat} : ∀ {n t : Nat},upTo l n = true -> t < n -> t ∈ l
 | 0,t,_,h => by omega
 | n + 1,t,h,hlt => by
  simp only [upTo,Bool.and_eq_true] at h
  by_cases ht : t = n
  ·subst ht; exact mem_iff.1 h.1
  ·exact upTo_mem h.2 (by omega)
theorem idsLive_get : ∀ {l : List (Nat × BPat)} {t : Nat},t ∈ idsLive l -> ∃ p,(t,p) ∈ l /\ p ≠ .dead
 | [],t,h => by simp [idsLive] at h
 | (t',p') :: r,t,h => by
  cases p' with
  | dead =>
   obtain ⟨p,hp,hd⟩ := idsLive_get (l:=r) (by simpa [idsLive] using h)
   exact ⟨p,by simp [hp],hd⟩
  | _ =>
   simp only [idsLive,List.mem_cons] at h
   rcases h with rfl | h
   ·exact ⟨_,List.mem_cons_self ..,fun h => by cases h⟩
   ·obtain ⟨p,hp,hd⟩ := idsLive_get (l:=r) h
    exact ⟨p,by simp [hp],hd⟩
theorem fHeap_live {L Lc : Leaves} : ∀ {l : List (Nat × BPat)} {t : Nat} {p : BPat},distinct (ids l) = true -> (t,p) ∈ l -> fHeap L Lc noHeap l t = fBlk L Lc p
 | [],t,p,_,h => by simp at h
 | (t',p') :: r,t,p,hd,h => by
  obtain ⟨hn,hd'⟩ := distinct_cons (t:=t') (l:=ids r) hd
  simp only [fHeap]
  rcases List.mem_cons.1 h with he | hm
  ·simp only [Prod.mk.injEq] at he
   obtain ⟨rfl,rfl⟩ := he
   rw [putH_same]
  ·have hne : t ≠ t' := fun he => hn (ids_mem.2 ⟨p,he ▸ hm⟩)
   rw [putH_other hne]
   exact fHeap_live hd' hm
theorem fBlk_live {L Lc : Leaves} {p : BPat} : p ≠ .dead ↔ ∃ b,fBlk L Lc p = some b := by
 cases p <;> simp [fBlk]
theorem nones_length : ∀ n,(nones n).length = n
 | 0 => rfl
 | n + 1 => by simp [nones,nones_length n]
theorem partsIn_some {k : Option Y} : ∀ {vs : List View},partsIn H vs k = some y ->
  k = some y /\ ∀ (t id lo n : Nat) g kd xs,vs[t]? = some (.part id lo n) -> H id = some (.ints g kd xs) -> lo + n <= xs.length
 | [],h => ⟨h,fun t id lo n g kd xs hv _ => by simp at hv⟩
 | v :: vs,h => by
  cases v with
  | part id lo n =>
   simp only [partsIn] at h
   split at h
   ·rename_i g kd xs hb
    rw [chk_some] at h
    obtain ⟨h1,h2⟩ := partsIn_some h.2
    refine ⟨h1,fun t id' lo' n' g' kd' xs' hv hb' => ?_⟩
    cases t with
    | zero =>
     simp at hv
     obtain ⟨rfl,rfl,rfl⟩ := hv
     rw [hb] at hb'
     simp only [Option.some.injEq,Blk.ints.injEq] at hb'
     rw [<- hb'.2.2]; exact h.1
    | succ t => simp at hv; exact h2 t _ _ _ _ _ _ hv hb'
   ·simp at h
  | _ =>
   simp only [partsIn] at h
   obtain ⟨h1,h2⟩ := partsIn_some h
   refine ⟨h1,fun t id' lo' n' g' kd' xs' hv hb' => ?_⟩
   cases t with
   | zero => simp at hv
   | succ t => simp at hv; exact h2 t _ _ _ _ _ _ hv hb'
theorem ren_R {RT' : RoTab} {E' : Env} {ro : Bool} {ρ : Nat -> Option Nat} {x : Atom} {u : Value} (hρ : ∀ t id I,ρ t = some id -> E.info t = some I -> E'.info id = some I) (hro : ro = true -> ∀ a v,E.M a = some v -> E'.M a = some v)
  (h : R RT' E x u) (hx : ∀ tag,x ≠ .ror tag) : R RT E' (renAtom ro ρ x) u := by
 cases h with
 | unk => exact .unk _
 | bool b => exact .bool b
 | int k n => exact .int k n
 | str s => exact .unk _
 | nilp => exact .nilp
 | ptr h =>
  simp only [renAtom]
  split
  ·rename_i id hid; exact .ptr (hρ _ _ _ hid h)
  ·exact .unk _
 | eptr h hi hj => exact .unk _
 | nils => exact .unk _
 | empt => exact .unk _
 | full h hb hn hc hg =>
  simp only [renAtom]
  split
  ·rename_i id hid; exact .full (hρ _ _ _ hid h) hb hn hc hg
  ·exact .unk _
 | sub => exact .unk _
 | csub => exact .unk _
 | roi hc hq =>
  cases ro with
  | false => exact .unk _
  | true => exact .roi hc fun i hi => let ⟨a,hb,hs,hm⟩ := hq i hi; ⟨a,hb,hs,hro rfl _ _ hm⟩
 | ror => exact absurd rfl (hx _)
 | rro uu hc hq hr =>
  cases ro with
  | false => exact .unk _
  | true => exact rro_R (hro rfl) (.rro uu hc hq hr)
 | rop => exact .unk _
 | @fn f cap vs hn hr =>
  cases f with
  | func f =>
   cases cap with
   | nil => exact .fn hn fun j x hj => by simp at hj
   | cons c cs => exact .unk _
  | _ => exact .unk _
 | nilf => exact .unk _
 | nili => exact .unk _
 | und => exact .unk _
 | @ifa t x v hr =>
  cases hr with
  | ptr h =>
   simp only [renAtom]
   split
   ·rename_i id hid; exact .ifa (.ptr (hρ _ _ _ hid h))
   ·exact .unk _
  | _ => exact .unk _
 | ifg hn hr => simp only [renAtom]; exact .unk _
theorem fAtom_ror {L Lc : Leaves} {p : Pat} (hp : plainP p = true) : ∀ tag,fAtom L Lc p ≠ .ror tag := by
 intro tag
 cases p <;> simp [fAtom,plainP] at hp ⊢
theorem renAtoms_eq (ro : Bool) (ρ : Nat -> Option Nat) : ∀ as : List Atom,renAtoms ro ρ as = as.map (renAtom ro ρ)
 | [] => rfl
 | p :: ps => by simp [renAtoms,renAtoms_eq ro ρ ps]
theorem ren_RCs {RT' : RoTab} {E' : Env} {ro : Bool} {ρ : Nat -> Option Nat} {L Lc : Leaves} {ps : List Pat} {vs : Array Value} (hρ : ∀ t id I,ρ t = some id -> E.info t = some I -> E'.info id = some I) (hro : ro = true -> ∀ a v,E.M a = some v -> E'.M a = some v)
  (hp : allP plainP ps = true) (h : RCs RT' E (fAtoms L Lc ps) vs) : RCs RT E' (renAtoms ro ρ (fAtoms L Lc ps)) vs := by
 rw [renAtoms_eq]
 refine ⟨by rw [h.1]; simp,fun j x hj => ?_⟩
 rw [List.getElem?_map] at hj
 cases hq : (fAtoms L Lc ps)[j]? with
 | none => simp [hq] at hj
 | some x' =>
  simp [hq] at hj
  subst hj
  refine ren_R hρ hro (h.2 j x' hq) ?_
  rw [fAtoms_eq,List.getElem?_map] at hq
  cases hq' : ps[j]? with
  | none => simp [hq'] at hq
  | some p =>
   simp [hq'] at hq
   subst hq
   exact fAtom_ror (allP_get hp (List.mem_of_getElem? hq'))
theorem renTup_eq (ro : Bool) (ρ : Nat -> Option Nat) : ∀ as : List (Bool × List Atom),renTup ro ρ as = as.map fun p => (p.1,renAtoms ro ρ p.2)
 | [] => rfl
 | (g,p) :: ps => by simp [renTup,renTup_eq ro ρ ps]
theorem ren_RV {RT' : RoTab} {E' : Env} {ro : Bool} {ρ : Nat -> Option Nat} {L Lc : Leaves} {p : VPat} {u : Value} (hρ : ∀ t id I,ρ t = some id -> E.info t = some I -> E'.info id = some I) (hro : ro = true -> ∀ a v,E.M a = some v -> E'.M a = some v)
  (hp : allV plainP p = true) (h : RV RT' E (fAV L Lc p) u) : RV RT E' (renAV ro ρ (fAV L Lc p)) u := by
 cases p with
 | «at» p => exact ren_R (x:=fAtom L Lc p) hρ hro h (fAtom_ror hp)
 | agg ps => obtain ⟨vs,rfl,hc⟩ := h; exact ⟨vs,rfl,ren_RCs hρ hro hp hc⟩
 | tup ps =>
  obtain ⟨vs,rfl,hn,hc⟩ := h
  refine ⟨vs,rfl,by rw [hn,renTup_eq]; simp,fun j q hj => ?_⟩
  rw [renTup_eq,List.getElem?_map] at hj
  cases hq : (fTup L Lc ps)[j]? with
  | none => simp [hq] at hj
  | some q' =>
   simp [hq] at hj
   subst hj
   have := hc j q' hq
   rw [fTup_eq,List.getElem?_map] at hq
   cases hq' : ps[j]? with
   | none => simp [hq'] at hq
   | some p =>
    simp [hq'] at hq
    subst hq
    obtain ⟨g,ps'⟩ := p
    have hpl := allT_get hp (List.mem_of_getElem? hq')
    simp only at this hpl ⊢
    cases g with
    | true => obtain ⟨vs',he,hc'⟩ := this; exact ⟨vs',he,ren_RCs hρ hro hpl hc'⟩
    | false =>
     match ps',this,hpl with
     | [p1],this,hpl =>
      simp only [allP,Bool.and_eq_true] at hpl
      exact ren_R (x:=fAtom L Lc p1) hρ hro this (fAtom_ror hpl.1)
theorem blt_iff {a b : Nat} : Nat.blt a b = true ↔ a < b := by simp [Nat.blt,Nat.succ_le_iff]
theorem tgt_old {σ : List View} {n nx t : Nat} (h : t < n) : tgt σ n nx t = match σ[t]? with | some v => viewId v | none => none := by
 unfold tgt
 rw [blt_iff.2 h]
 simp only [nth_eq]
 cases σ[t]? with
 | none => rfl
 | some v => cases v <;> rfl
theorem tgt_new {σ : List View} {n nx t : Nat} (h : n <= t) : tgt σ n nx t = some (nx + (t - n)) := by
 unfold tgt
 have : Nat.blt t n = false := by
  cases hb : Nat.blt t n with
  | false => rfl
  | true => have := blt_iff.1 hb; omega
 rw [this]
theorem All2.map {α β γ : Type} {r : α -> β -> Prop} {q : γ -> β -> Prop} {f : α -> γ} : ∀ {as : List α} {bs : List β},All2 r as bs -> (∀ x ∈ as,∀ z,r x z -> q (f x) z) -> All2 q (as.map f) bs
 | _,_,.nil,_ => .nil
 | _,_,.cons h hs,hk => .cons (hk _ (by simp) _ h) (hs.map fun x hx z hr => hk x (by simp [hx]) z hr)
theorem fAVs_eq (L Lc : Leaves) : ∀ ps : List VPat,fAVs L Lc ps = ps.map (fAV L Lc)
 | [] => rfl
 | p :: ps => by simp [fAVs,fAVs_eq L Lc ps]
theorem allVs_get {f : Pat -> Bool} : ∀ {ps : List VPat} {p : VPat},allVs f ps = true -> p ∈ ps -> allV f p = true
 | [],p,_,h => by simp at h
 | q :: r,p,h,hm => by
  simp only [allVs,Bool.and_eq_true] at h
  rcases List.mem_cons.1 hm with rfl | hm
  ·exact h.1
  ·exact allVs_get h.2 hm
theorem All2.comp {α β γ : Type} {r : α -> β -> Prop} {s : β -> γ -> Prop} {q : α -> γ -> Prop} (h : ∀ x z u,r x z -> s z u -> q x u) :
  ∀ {as : List α} {bs : List β} {cs : List γ},All2 r as bs -> All2 s bs cs -> All2 q as cs
 | _,_,_,.nil,.nil => .nil
 | _,_,_,.cons h1 hs,.cons h2 ht => .cons (h _ _ _ h1 h2) (hs.comp h ht)
end Go.Eng
/-
 The engine, part eight: a call by its callee's contract.
 Conditions: none; nothing is claimed of the program here.
-/
namespace Go.Eng
variable {RT : RoTab} {E : Env} {F : Fr} {a : Act} {H : Heap} {fp : Fp} {w : World} {P : Program} {Y : Type} {y : Y}
theorem matchB_view {L Lc : Leaves} {σ : List View} {lent : List Nat} {p : BPat} {v : View} (h : MatchB H L Lc σ lent p v) :
  v = .empty \/ ∃ id b,viewId v = some id /\ H id = some b := by
 unfold MatchB at h
 split at h
 ·obtain ⟨cs,hb,_⟩ := h; exact Or.inr ⟨_,_,rfl,hb⟩
 ·obtain ⟨cs,hb,_⟩ := h; exact Or.inr ⟨_,_,rfl,hb⟩
 ·obtain ⟨cs,hb,_⟩ := h; exact Or.inr ⟨_,_,rfl,hb⟩
 ·obtain ⟨_,g',xs,hb,_⟩ := h; exact Or.inr ⟨_,_,rfl,hb⟩
 ·obtain ⟨_,g',xs,hb,_⟩ := h; exact Or.inr ⟨_,_,rfl,hb⟩
 ·exact Or.inl rfl
 ·exact Or.inl rfl
 ·rcases h with ⟨g',hb,_⟩ | ⟨_,kd,xss,i,b,gb,ys,_,hb,_⟩ <;> exact Or.inr ⟨_,_,rfl,hb⟩
 ·obtain ⟨cs,hb,_⟩ := h; exact Or.inr ⟨_,_,rfl,hb⟩
 ·obtain ⟨cs,hb,_⟩ := h; exact Or.inr ⟨_,_,rfl,hb⟩
 ·exact h.elim
theorem base_own {L Lc : Leaves} {σ : List View} {lent : List Nat} {blks : List (Nat × BPat)} (hs : Sim RT E H fp w)
  (hm : ∀ q ∈ blks,q.2 = .dead \/ ∃ v,σ[q.1]? = some v /\ MatchB H L Lc σ lent q.2 v)
  (hp : ∀ (t id lo n : Nat) g kd xs,σ[t]? = some (.part id lo n) -> H id = some (.ints g kd xs) -> lo + n <= xs.length) {x : Nat × Nat} {t : Nat} {b : Blk}
  (hb : fHeap L Lc noHeap blks t = some b) (hx : baseFp E fp σ t x) : ∃ v id b',σ[t]? = some v /\ viewId v = some id /\ H id = some b' /\ fp id x := by
 rcases fHeap_get L Lc noHeap hb with ⟨q,hq,rfl,h2⟩ | ⟨h1,_⟩
 ·rcases hm q hq with hd | ⟨v,h3,h4⟩
  ·rw [hd] at h2; simp [fBlk] at h2
  ·simp only [baseFp,h3] at hx
   obtain ⟨id,b',g1,g2,g3⟩ := viewFp_sub hs h4 (fun id lo n g kd xs he hb' => by subst he; exact hp _ _ _ _ _ _ _ h3 hb') hx
   exact ⟨v,id,b',h3,g1,g2,g3⟩
 ·simp [noHeap] at h1
theorem renBlk_some {ro : Bool} {ρ : Nat -> Option Nat} {b : Blk} {o : Option Blk} (h : renBlk ro ρ o = some b) : ∃ b',o = some b' := by
 cases o with
 | none => simp [renBlk] at h
 | some b' => exact ⟨b',rfl⟩
theorem partB_some {lo n : Nat} {o b : Option Blk} {c : Blk} (h : partB lo n o b = some c) :
  ∃ g kd xs g' ys,o = some (.ints g kd xs) /\ b = some (.ints g' kd ys) /\ c = .ints g kd (xs.take lo ++ (ys ++ xs.drop (lo + n))) := by
 cases o with
 | none => simp [partB] at h
 | some bo =>
  cases b with
  | none => cases bo <;> simp [partB] at h
  | some bb =>
   cases bo with
   | ints g kd xs =>
    cases bb with
    | ints g' kd' ys =>
     simp only [partB] at h
     split at h
     ·rename_i he
      have := eqK_iff.1 he
      subst this
      simp only [Option.some.injEq] at h
      exact ⟨g,kd,xs,g',ys,rfl,rfl,h.symm⟩
     ·simp at h
    | _ => simp [partB] at h
   | _ => simp [partB] at h
theorem renBlk_ok {RT' : RoTab} {E' : Env} {ro : Bool} {ρ : Nat -> Option Nat} {L Lc : Leaves} {p : BPat} {b b' : Blk} {I : Info} {f : Nat × Nat -> Prop}
  (hρ : ∀ t id I,ρ t = some id -> E.info t = some I -> E'.info id = some I) (hro : ro = true -> ∀ a v,E.M a = some v -> E'.M a = some v) (hp : ∀ wd ps,p = .cells wd ps -> allP plainP ps = true) (hb : fBlk L Lc p = some b)
  (hr : renBlk ro ρ (some b) = some b') (ok : BlkOK RT' E b I f w) : BlkOK RT E' b' I f w where
 own := ok.own
 cap := ok.cap
 live := ok.live
 kind := by
  have hk := ok.kind
  cases p with
  | cells wd ps =>
   simp only [fBlk,Option.some.injEq] at hb
   subst hb
   simp only [renBlk,Option.some.injEq] at hr
   subst hr
   refine ⟨hk.1,by rw [hk.2.1,renAtoms_eq]; simp,hk.2.2.1,fun j x hj => ?_⟩
   rw [renAtoms_eq,List.getElem?_map] at hj
   cases hq : (fAtoms L Lc ps)[j]? with
   | none => simp [hq] at hj
   | some x' =>
    simp [hq] at hj
    subst hj
    obtain ⟨v,hv,hr⟩ := hk.2.2.2 j x' hq
    refine ⟨v,hv,ren_R hρ hro hr ?_⟩
    rw [fAtoms_eq,List.getElem?_map] at hq
    cases hq' : ps[j]? with
    | none => simp [hq'] at hq
    | some p =>
     simp [hq'] at hq
     subst hq
     exact fAtom_ror (allP_get (hp _ _ rfl) (List.mem_of_getElem? hq'))
  | ints g k i => simp only [fBlk,Option.some.injEq] at hb; subst hb; simp only [renBlk,Option.some.injEq] at hr; subst hr; exact hk
  | fints g k i => simp only [fBlk,Option.some.injEq] at hb; subst hb; simp only [renBlk,Option.some.injEq] at hr; subst hr; exact hk
  | recs g T i =>
   simp only [fBlk,Option.some.injEq] at hb; subst hb
   cases ro with
   | false =>
    simp only [renBlk] at hr
    split at hr
    ·rename_i hrk
     simp only [Option.some.injEq] at hr; subst hr
     exact ⟨hk.1,hk.2.1,hk.2.2.1,fun i j x hi hj => let ⟨v,hv,hr⟩ := hk.2.2.2 i j x hi hj; ⟨v,hv,recA_int hrk hj hr⟩⟩
    ·simp at hr
   | true =>
    simp only [renBlk,Option.some.injEq] at hr; subst hr
    exact ⟨hk.1,hk.2.1,hk.2.2.1,fun i j x hi hj => let ⟨v,hv,hr⟩ := hk.2.2.2 i j x hi hj; ⟨v,hv,recA_R hj (hro rfl) hr⟩⟩
  | frecs g T i =>
   simp only [fBlk,Option.some.injEq] at hb; subst hb
   cases ro with
   | false =>
    simp only [renBlk] at hr
    split at hr
    ·rename_i hrk
     simp only [Option.some.injEq] at hr; subst hr
     exact ⟨hk.1,hk.2.1,hk.2.2.1,fun i j x hi hj => let ⟨v,hv,hr⟩ := hk.2.2.2 i j x hi hj; ⟨v,hv,recA_int hrk hj hr⟩⟩
    ·simp at hr
   | true =>
    simp only [renBlk,Option.some.injEq] at hr; subst hr
    exact ⟨hk.1,hk.2.1,hk.2.2.1,fun i j x hi hj => let ⟨v,hv,hr⟩ := hk.2.2.2 i j x hi hj; ⟨v,hv,recA_R hj (hro rfl) hr⟩⟩
  | fhole k i hi t => simp only [fBlk,Option.some.injEq] at hb; subst hb; simp [renBlk] at hr
  | dead => simp [fBlk] at hb
theorem part_ok {O : Nat × Nat -> Prop} {w' : World} {lo n : Nat} {g g' : Bool} {kd : IntKind} {xs ys : List Int} {I : Info} {f1 f : Nat × Nat -> Prop} {RT' : RoTab} {E1 : Env}
  (hf : Frm w O w') (ok : BlkOK RT E (.ints g kd xs) I f w) (ok1 : BlkOK RT' E1 (.ints g' kd ys) ⟨I.cb,I.coff + lo,n,n,1,false⟩ f1 w')
  (hl : lo + n <= xs.length) (hO : ∀ x,f x -> O x -> I.coff + lo <= x.2 /\ x.2 < I.coff + lo + n) :
  BlkOK RT E (.ints g kd (xs.take lo ++ (ys ++ xs.drop (lo + n)))) I f w' := by
 obtain ⟨k1,k2,k3,k4⟩ := ok.kind
 obtain ⟨l1,l2,l3,l4⟩ := ok1.kind
 simp only at l1 l2 l4
 have hcap := ok.cap
 have hlen : (xs.take lo ++ (ys ++ xs.drop (lo + n))).length = xs.length := by simp; omega
 refine ⟨ok.own,ok.cap,fun x hx => ?_,k1,by rw [hlen]; exact k2,k3,fun j hj => ?_⟩
 ·obtain ⟨v,hv,hfz⟩ := ok.live x hx
  obtain ⟨v',hv'⟩ := hf.live hv
  refine ⟨v',hv',?_⟩
  rw [hf.frozen (a:=⟨x.1,x.2,none⟩) (by
   unfold World.cell? at hv
   split at hv
   ·rename_i h; exact heap_lt h
   ·simp at hv)]
  exact hfz
 ·rw [hlen] at hj
  have hx : f (I.cb,I.coff + j) := (ok.own _).2 ⟨rfl,by simp,by simp only [k1]; split <;> omega⟩
  have keep : (j < lo \/ lo + n <= j) -> w'.cell? ⟨I.cb,I.coff + j,none⟩ = some (.int kd (xs.getD j 0)) := by
   intro hj'
   refine hf.cell (k4 j hj) fun ho => ?_
   obtain ⟨h1,h2⟩ := hO _ hx ho
   simp only at h1 h2
   omega
  rcases Nat.lt_or_ge j lo with h | h
  ·rw [keep (Or.inl h)]
   congr 2
   simp only [List.getD_eq_getElem?_getD]
   rw [List.getElem?_append_left (by simp; omega),List.getElem?_take_of_lt h]
  ·rcases Nat.lt_or_ge j (lo + n) with h' | h'
   ·have := l4 (j - lo) (by omega)
    rw [show I.coff + lo + (j - lo) = I.coff + j by omega] at this
    rw [this]
    congr 2
    simp only [List.getD_eq_getElem?_getD]
    rw [List.getElem?_append_right (by simp; omega),List.getElem?_append_left (by simp; omega)]
    congr 2
    simp; omega
   ·rw [keep (Or.inr h')]
    congr 2
    simp only [List.getD_eq_getElem?_getD]
    rw [List.getElem?_append_right (by simp; omega),List.getElem?_append_right (by simp; omega),List.getElem?_drop]
    congr 2
    simp; omega
theorem callSpec_sound {f : FuncId} {s : Spec} {N nx : Nat} {args : List AV} {cargs : Array Value} {k : AV -> Heap -> Nat -> Option Y} (hok : CallOK P f s) (hRT : RTok RT)
  (hs : Sim RT E H fp w) (hf : Fresh E nx) (ha : All2 (RV RT E) args cargs.toList) (hk : callSpec N s args H nx k = some y) :
  Calls P f cargs w fun e w' => ∃ u E' H' fp' nx' v,e = .returned u /\ k v H' nx' = some y /\ RV RT E' v u /\ Sim RT E' H' fp' w' /\ Step E H fp w nx E' H' fp' w' nx' := by
 unfold callSpec at hk
 obtain ⟨m1,h1,e1,k1⟩ := mAVs_sound hk
 obtain ⟨m,h2,e2,k2⟩ := mBlks_sound h1
 rw [gate_some] at h2
 obtain ⟨hg,h3⟩ := h2
 simp only [Bool.and_eq_true] at hg
 obtain ⟨_,hva,hla⟩ := hg
 obtain ⟨h4,hparts⟩ := partsIn_some h3
 rw [hok.cps,obind_some] at h4
 obtain ⟨L',hrun,h5⟩ := h4
 have hspec := hok.ok
 unfold specOk at hspec
 simp only [Bool.and_eq_true] at hspec
 obtain ⟨q1,q2,q3,q4,q5,q6,q7,q8,q9,q10,q11,q12⟩ := hspec
 have hargs := k1 m e2
 have hblks := k2 m (.refl m)
 simp only [lcOf] at hargs hblks
 have hσ : m.σ.length = s.n := by rw [(e1.trans e2).σlen]; exact nones_length _
 have hbase := Sim.base hRT hs hblks hva hla hparts
 have hnf : fHeap m.leaves m.fixed noHeap s.pre = fHeap m.leaves m.leaves noHeap s.pre := fHeap_noFix q6 q7
 have hown0 : ∀ {x t b},fHeap m.leaves m.leaves noHeap s.pre t = some b -> baseFp E fp m.σ t x -> ∃ v id b',m.σ[t]? = some v /\ viewId v = some id /\ H id = some b' /\ fp id x := by
  intro x t b hb hx
  rw [<- hnf] at hb
  exact base_own hs hblks hparts hb hx
 rw [hnf] at hbase
 have hb' := hbase.anyRT (RT' := noRT) q2
 have hargs' : All2 (RV noRT (baseE E H fp w m.σ m.lent)) (fAVs m.leaves m.leaves s.args) cargs.toList := by
  rw [fAVs_eq]
  have h := All2.comp (s:=RV RT E) (q:=fun p u => RV RT (baseE E H fp w m.σ m.lent) (fAV m.leaves m.fixed p) u) (fun p x u hm hx => matchV_RV hRT hs hm hx) hargs ha
  refine h.map fun p hp u hr => ?_
  rw [<- fAV_noFix (Lc:=m.fixed) (allVs_get q5 hp)]
  exact fAV_RT (allVs_get q1 hp) hr
 have hfc : Fresh (baseE E H fp w m.σ m.lent) s.n := fun id hid => by
  simp only [baseE]
  rw [List.getElem?_eq_none (by omega)]
 have hpre : ∀ t,t < s.n -> ∃ v,m.σ[t]? = some v /\ (v = .empty \/ ∃ id b,viewId v = some id /\ H id = some b) := by
  intro t ht
  obtain ⟨p,hp,hd⟩ := idsLive_get (upTo_mem q11 ht)
  rcases hblks _ hp with h | ⟨v,hv,hm⟩
  ·exact absurd h hd
  ·exact ⟨v,hv,matchB_view hm⟩
 have hplive : ∀ t,t < s.n -> ∃ b,fHeap m.leaves m.leaves noHeap s.pre t = some b := by
  intro t ht
  obtain ⟨p,hp,hd⟩ := idsLive_get (upTo_mem q11 ht)
  rw [fHeap_live q12 hp]
  exact fBlk_live.1 hd
 refine (hok.calls N m.leaves L' _ _ w cargs hrun hb' hargs' hfc).mono fun e w' ⟨E1,fp1,u,he,hret,hsim,hfrm,hown,hinfo,hM1,hext⟩ => ?_
 have hlt : ∀ {id b},H id = some b -> id < nx := fun {id b} hb => by
  rcases Nat.lt_or_ge id nx with h | h
  ·exact h
  ·rw [fresh_heap hs hf h] at hb; simp at hb
 -- the ids
 have hinj : ∀ t t' id,tgt m.σ s.n nx t = some id -> tgt m.σ s.n nx t' = some id -> t = t' := by
  have old : ∀ {t id},t < s.n -> tgt m.σ s.n nx t = some id -> ∃ v,m.σ[t]? = some v /\ viewId v = some id /\ id < nx := by
   intro t id ht h
   rw [tgt_old ht] at h
   obtain ⟨v,hv,hv'⟩ := hpre t ht
   simp only [hv] at h
   refine ⟨v,hv,h,?_⟩
   rcases hv' with rfl | ⟨id',b,h1,h2⟩
   ·simp [viewId] at h
   ·rw [h] at h1; obtain rfl := Option.some.inj h1; exact hlt h2
  intro t t' id h h'
  rcases Nat.lt_or_ge t s.n with ht | ht <;> rcases Nat.lt_or_ge t' s.n with ht' | ht'
  ·obtain ⟨v,g1,g2,_⟩ := old ht h
   obtain ⟨v',g1',g2',_⟩ := old ht' h'
   rcases Nat.decEq t t' with hne | he
   ·exact absurd rfl (viewsApart_ne hva hne g1 g1' g2 g2')
   ·exact he
  ·obtain ⟨v,g1,g2,g3⟩ := old ht h
   rw [tgt_new ht'] at h'
   simp only [Option.some.injEq] at h'
   omega
  ·obtain ⟨v,g1,g2,g3⟩ := old ht' h'
   rw [tgt_new ht] at h
   simp only [Option.some.injEq] at h
   omega
  ·rw [tgt_new ht] at h
   rw [tgt_new ht'] at h'
   simp only [Option.some.injEq] at h h'
   omega
 -- whose cells
 have F1 : ∀ {x},OwnAll (fHeap m.leaves m.leaves noHeap s.pre) (baseFp E fp m.σ) x -> ∃ t v id b,t < s.n /\ m.σ[t]? = some v /\ viewId v = some id /\ H id = some b /\ fp id x /\ baseFp E fp m.σ t x := by
  rintro x ⟨t,b,hb,hx⟩
  obtain ⟨v,id,b',g1,g2,g3,g4⟩ := hown0 hb hx
  refine ⟨t,v,id,b',?_,g1,g2,g3,g4,hx⟩
  rcases Nat.lt_or_ge t s.n with h | h
  ·exact h
  ·rw [List.getElem?_eq_none (by omega)] at g1; simp at g1
 have F2 : ∀ {id b x},H id = some b -> fp id x -> OwnAll (fHeap m.leaves m.leaves noHeap s.pre) (baseFp E fp m.σ) x ->
   ∃ t v,t < s.n /\ m.σ[t]? = some v /\ viewId v = some id /\ baseFp E fp m.σ t x := by
  intro id b x hb hx ho
  obtain ⟨t,v,id',b',g0,g1,g2,g3,g4,g5⟩ := F1 ho
  rcases Nat.decEq id' id with hne | he
  ·exact absurd hx (hs.disj _ _ _ _ x g3 hb hne g4)
  ·exact ⟨t,v,g0,g1,he ▸ g2,g5⟩
 have F3 : ∀ {t b x},fHeap L' m.leaves noHeap s.post t = some b -> fp1 t x -> x.1 < w.heap.size -> OwnAll (fHeap m.leaves m.leaves noHeap s.pre) (baseFp E fp m.σ) x :=
  fun {t b x} hb hx hl => hown x ⟨t,b,hb,hx⟩ hl
 have hplv : ∀ {t b},fHeap L' m.leaves noHeap s.post t = some b -> ∃ p,(t,p) ∈ s.post /\ p ≠ .dead /\ fBlk L' m.leaves p = some b := by
  intro t b hb
  rcases fHeap_get _ _ _ hb with ⟨⟨t',p⟩,hq,rfl,h2⟩ | ⟨h1,_⟩
  ·exact ⟨p,hq,fBlk_live.2 ⟨b,h2⟩,h2⟩
  ·simp [noHeap] at h1
 have hI1 : ∀ {t b},t < s.n -> fHeap L' m.leaves noHeap s.post t = some b -> E1.info t = (baseE E H fp w m.σ m.lent).info t := by
  intro t b ht hb
  obtain ⟨p,hp,hd,_⟩ := hplv hb
  exact hinfo t ht (idsLive_mem hp hd)
 have F4 : ∀ {t b},t < s.n -> fHeap L' m.leaves noHeap s.post t = some b -> ∀ x,fp1 t x ↔ baseFp E fp m.σ t x := by
  intro t b ht hb x
  obtain ⟨I1,g1,ok1⟩ := hsim.blk t b hb
  obtain ⟨b0,hb0⟩ := hplive t ht
  obtain ⟨I0,g0,ok0⟩ := hbase.blk t b0 hb0
  rw [hI1 ht hb,g0] at g1
  obtain rfl := Option.some.inj g1
  exact (ok1.own x).trans (ok0.own x).symm
 -- the state behind
 let E' : Env := ⟨fun id => if id < nx then E.info id else if s.n + (id - nx) ∈ idsLive s.post then E1.info (s.n + (id - nx)) else none,if noLent m.lent = true then E1.M else E.M⟩
 let fp' : Fp := fun id => if id < nx then fp id else fp1 (s.n + (id - nx))
 have hfro : ∀ {id},id < nx -> fp' id = fp id := fun {id} h => by simp [fp',h]
 have hfrn : ∀ {t},s.n <= t -> fp' (nx + (t - s.n)) = fp1 t := fun {t} h => by
  have h1 : ¬ nx + (t - s.n) < nx := by omega
  have h2 : s.n + (nx + (t - s.n) - nx) = t := by omega
  simp only [fp']
  rw [if_neg h1,h2]
 have hle : E.Le E' := ⟨fun id I hI => by
  have : id < nx := by
   rcases Nat.lt_or_ge id nx with h | h
   ·exact h
   ·rw [hf id h] at hI; simp at hI
  simp only [E',if_pos this]
  exact hI,fun ad v h => by
  simp only [E']
  split
  ·exact hM1 _ _ (baseE_M (H:=H) (fp:=fp) (w:=w) (σ:=m.σ) (lent:=m.lent) h)
  ·exact h⟩
 have hro : noLent m.lent = true -> ∀ ad v,E1.M ad = some v -> E'.M ad = some v := fun hl ad v h => by simp only [E',if_pos hl]; exact h
 have hbM : noLent m.lent = true -> ∀ ad v,(baseE E H fp w m.σ m.lent).M ad = some v -> E.M ad = some v := fun hl ad v h => baseE_none hl h
 have hold : ∀ {id},id < nx -> E'.info id = E.info id := fun {id} h => by simp only [E',if_pos h]
 have hnew : ∀ {t},s.n <= t -> t ∈ idsLive s.post -> E'.info (nx + (t - s.n)) = E1.info t := fun {t} h hl => by
  have h1 : ¬ nx + (t - s.n) < nx := by omega
  have h2 : s.n + (nx + (t - s.n) - nx) = t := by omega
  simp only [E']
  rw [if_neg h1,h2,if_pos hl]
 have hρ : ∀ t id I,renId m.σ (idsLive s.post) s.n nx t = some id -> E1.info t = some I -> E'.info id = some I := by
  intro t id I hr hI
  unfold renId at hr
  split at hr
  ·simp at hr
  ·rename_i hm
   have hm' := mem_iff.1 hm
   split at hr
   ·rename_i hb
    have ht := blt_iff.1 hb
    split at hr
    ·rename_i i hn
     simp only [Option.some.injEq] at hr
     subst hr
     rw [nth_eq] at hn
     rw [hinfo t ht hm',baseE_info hn] at hI
     exact hle.info _ _ hI
    ·simp at hr
   ·rename_i hb
    simp only [Option.some.injEq] at hr
    subst hr
    have ht : s.n <= t := by
     rcases Nat.lt_or_ge t s.n with h | h
     ·rw [blt_iff.2 h] at hb; simp at hb
     ·exact h
    rw [hnew ht hm']
    exact hI
 have hcase : ∀ {id b},postBlks (noLent m.lent) (renId m.σ (idsLive s.post) s.n nx) m.σ s.n nx L' m.leaves s.post H id = some b ->
   (id < nx /\ H id = some b /\ ∀ t p,(t,p) ∈ s.post -> tgt m.σ s.n nx t ≠ some id) \/
   (∃ t bp p,(t,p) ∈ s.post /\ fBlk L' m.leaves p = some bp /\ fHeap L' m.leaves noHeap s.post t = some bp /\ t < s.n /\ m.σ[t]? = some (.whole id) /\ renBlk (noLent m.lent) (renId m.σ (idsLive s.post) s.n nx) (some bp) = some b) \/
   (∃ t lo n g kd xs g' ys,fHeap L' m.leaves noHeap s.post t = some (.ints g' kd ys) /\ t < s.n /\ m.σ[t]? = some (.part id lo n) /\ H id = some (.ints g kd xs) /\ b = .ints g kd (xs.take lo ++ (ys ++ xs.drop (lo + n)))) \/
   (∃ t bp p,(t,p) ∈ s.post /\ fBlk L' m.leaves p = some bp /\ fHeap L' m.leaves noHeap s.post t = some bp /\ s.n <= t /\ id = nx + (t - s.n) /\ renBlk (noLent m.lent) (renId m.σ (idsLive s.post) s.n nx) (some bp) = some b) := by
  intro id b hb
  rcases postBlks_get H (ro:=noLent m.lent) (ρ:=renId m.σ (idsLive s.post) s.n nx) (L:=L') (Lc:=m.leaves) hinj (ps:=s.post) (id:=id) q8 with ⟨t,p,hp,ht,heq⟩ | ⟨h1,heq⟩
  ·rw [hb] at heq
   have hHp : fHeap L' m.leaves noHeap s.post t = fBlk L' m.leaves p := fHeap_live q8 hp
   rcases Nat.lt_or_ge t s.n with hlt' | hge
   ·rw [tgt_old hlt'] at ht
    obtain ⟨v,hv,_⟩ := hpre t hlt'
    simp only [hv] at ht
    unfold postAt at heq
    rw [blt_iff.2 hlt'] at heq
    simp only [nth_eq,hv] at heq
    cases v with
    | none => simp [viewId] at ht
    | empty => simp [viewId] at ht
    | whole i =>
     simp only [viewId,Option.some.injEq] at ht
     subst ht
     obtain ⟨bp,hbp⟩ := renBlk_some heq.symm
     refine Or.inr (Or.inl ⟨t,bp,p,hp,hbp,hHp.trans hbp,hlt',hv,?_⟩)
     rw [hbp] at heq
     exact heq.symm
    | part i lo n =>
     simp only [viewId,Option.some.injEq] at ht
     subst ht
     obtain ⟨g,kd,xs,g',ys,h1,h2,h3⟩ := partB_some heq.symm
     exact Or.inr (Or.inr (Or.inl ⟨t,lo,n,g,kd,xs,g',ys,hHp.trans h2,hlt',hv,h1,h3⟩))
   ·rw [tgt_new hge] at ht
    simp only [Option.some.injEq] at ht
    unfold postAt at heq
    have : Nat.blt t s.n = false := by
     cases hb' : Nat.blt t s.n with
     | false => rfl
     | true => have := blt_iff.1 hb'; omega
    rw [this] at heq
    obtain ⟨bp,hbp⟩ := renBlk_some heq.symm
    rw [hbp] at heq
    exact Or.inr (Or.inr (Or.inr ⟨t,bp,p,hp,hbp,hHp.trans hbp,hge,ht.symm,heq.symm⟩))
  ·rw [hb] at heq
   exact Or.inl ⟨hlt heq.symm,heq.symm,h1⟩
 have hview : ∀ {t id},t < s.n -> (∃ v,m.σ[t]? = some v /\ viewId v = some id) -> (∃ b,H id = some b) /\ tgt m.σ s.n nx t = some id := by
  rintro t id ht ⟨v,hv,hid⟩
  obtain ⟨v',hv',h⟩ := hpre t ht
  rw [hv] at hv'
  obtain rfl := Option.some.inj hv'
  refine ⟨?_,by rw [tgt_old ht,hv]; exact hid⟩
  rcases h with rfl | ⟨id',b,h1,h2⟩
  ·simp [viewId] at hid
  ·rw [hid] at h1
   obtain rfl := Option.some.inj h1
   exact ⟨b,h2⟩
 have hkeep : ∀ {id b x},H id = some b -> (∀ t p,(t,p) ∈ s.post -> tgt m.σ s.n nx t ≠ some id) -> fp id x -> ¬ OwnAll (fHeap m.leaves m.leaves noHeap s.pre) (baseFp E fp m.σ) x := by
  intro id b x hb hu hx ho
  obtain ⟨t,v,ht,hv,hid,_⟩ := F2 hb hx ho
  obtain ⟨p,hp⟩ := ids_mem.1 (upTo_mem q10 ht)
  exact hu t p hp (hview ht ⟨v,hv,hid⟩).2
 have hplain : ∀ {t p},(t,p) ∈ s.post -> ∀ wd ps,p = .cells wd ps -> allP plainP ps = true := fun {t p} hp wd ps he => allB_get q3 hp he
 have hblk : ∀ {id b},postBlks (noLent m.lent) (renId m.σ (idsLive s.post) s.n nx) m.σ s.n nx L' m.leaves s.post H id = some b -> (∃ I,E'.info id = some I /\ BlkOK RT E' b I (fp' id) w') /\
   ((∃ b0,H id = some b0) /\ id < nx \/ ∃ t bp,s.n <= t /\ id = nx + (t - s.n) /\ fHeap L' m.leaves noHeap s.post t = some bp) := by
  intro id b hb
  rcases hcase hb with ⟨hi,hb0,hu⟩ | ⟨t,bp,p,hp,hfb,hHp,ht,hv,hr⟩ | ⟨t,lo,n,g,kd,xs,g',ys,hHp,ht,hv,hb0,rfl⟩ | ⟨t,bp,p,hp,hfb,hHp,ht,rfl,hr⟩
  ·obtain ⟨I,hI,ok⟩ := hs.blk id b hb0
   refine ⟨⟨I,by rw [hold hi]; exact hI,?_⟩,Or.inl ⟨⟨b,hb0⟩,hi⟩⟩
   rw [hfro hi]
   exact (ok.frm hfrm fun x hx => hkeep hb0 hu hx).mono hle
  ·obtain ⟨⟨b0,hb0⟩,_⟩ := hview ht ⟨_,hv,rfl⟩
   have hi := hlt hb0
   obtain ⟨I1,g1,ok1⟩ := hsim.blk t bp hHp
   refine ⟨⟨I1,?_,?_⟩,Or.inl ⟨⟨b0,hb0⟩,hi⟩⟩
   ·rw [hold hi]
    rw [hI1 ht hHp,baseE_info hv] at g1
    exact g1
   ·have hfe : fp' id = fp1 t := by
     rw [hfro hi]
     funext x
     refine propext (Iff.trans ?_ (F4 ht hHp x).symm)
     simp [baseFp,hv,viewFp]
    rw [hfe]
    exact renBlk_ok hρ hro (hplain hp) hfb hr ok1
  ·have hi := hlt hb0
   obtain ⟨I,hI,ok⟩ := hs.blk id _ hb0
   obtain ⟨I1,g1,ok1⟩ := hsim.blk t _ hHp
   rw [hI1 ht hHp,baseE_info hv] at g1
   simp only [viewInfo,hI,Option.map_some,Option.some.injEq] at g1
   subst g1
   refine ⟨⟨I,by rw [hold hi]; exact hI,?_⟩,Or.inl ⟨⟨_,hb0⟩,hi⟩⟩
   rw [hfro hi]
   refine (part_ok hfrm ok ok1 (hparts _ _ _ _ _ _ _ hv hb0) fun x hx ho => ?_).mono hle
   obtain ⟨t0,v0,ht0,hv0,hid0,hx0⟩ := F2 hb0 hx ho
   have : t0 = t := hinj t0 t id (hview ht0 ⟨_,hv0,hid0⟩).2 (hview ht ⟨_,hv,rfl⟩).2
   subst this
   simp only [baseFp,hv,viewFp,hI,Option.some.injEq,exists_eq_left'] at hx0
   obtain ⟨h1,h2,h3⟩ := hx0
   simp only [Bool.false_eq_true,if_false,Nat.mul_one] at h2 h3
   exact ⟨h2,h3⟩
  ·obtain ⟨I1,g1,ok1⟩ := hsim.blk t bp hHp
   refine ⟨⟨I1,by rw [hnew ht (idsLive_mem hp (fBlk_live.2 ⟨bp,hfb⟩))]; exact g1,?_⟩,Or.inr ⟨t,bp,ht,rfl,hHp⟩⟩
   rw [hfrn ht]
   exact renBlk_ok hρ hro (hplain hp) hfb hr ok1
 have hown' : ∀ {id b x},postBlks (noLent m.lent) (renId m.σ (idsLive s.post) s.n nx) m.σ s.n nx L' m.leaves s.post H id = some b -> fp' id x ->
   (∃ b0,H id = some b0 /\ fp id x /\ id < nx) \/ ∃ t bp,s.n <= t /\ id = nx + (t - s.n) /\ fHeap L' m.leaves noHeap s.post t = some bp /\ fp1 t x := by
  intro id b x hb hx
  rcases (hblk hb).2 with ⟨⟨b0,hb0⟩,hi⟩ | ⟨t,bp,ht,rfl,hHp⟩
  ·rw [hfro hi] at hx; exact Or.inl ⟨b0,hb0,hx,hi⟩
  ·rw [hfrn ht] at hx; exact Or.inr ⟨t,bp,ht,rfl,hHp,hx⟩
 have hsep : ∀ {id b b0 x t bp},postBlks (noLent m.lent) (renId m.σ (idsLive s.post) s.n nx) m.σ s.n nx L' m.leaves s.post H id = some b -> H id = some b0 -> fp id x ->
   s.n <= t -> fHeap L' m.leaves noHeap s.post t = some bp -> ¬ fp1 t x := by
  intro id b b0 x t bp hb hb0 hx ht hHp hx1
  have ho := F3 hHp hx1 (hs.cell_lt hb0 hx)
  obtain ⟨t0,v0,ht0,hv0,hid0,hx0⟩ := F2 hb0 hx ho
  have hi := hlt hb0
  have touched : ∀ {t1 b1 v1},t1 < s.n -> m.σ[t1]? = some v1 -> viewId v1 = some id -> fHeap L' m.leaves noHeap s.post t1 = some b1 -> False := by
   intro t1 b1 v1 h1 h2 h3 h4
   have he : t0 = t1 := hinj t0 t1 id (hview ht0 ⟨_,hv0,hid0⟩).2 (hview h1 ⟨_,h2,h3⟩).2
   subst he
   exact hsim.disj t0 t _ _ x h4 hHp (by omega) ((F4 h1 h4 x).2 hx0) hx1
  rcases hcase hb with ⟨_,hb0',hu⟩ | ⟨t1,bp1,p,hp,hfb,hHp1,ht1,hv,hr⟩ | ⟨t1,lo,n,g,kd,xs,g',ys,hHp1,ht1,hv,hb0',rfl⟩ | ⟨t1,bp1,p,hp,hfb,hHp1,ht1,rfl,hr⟩
  ·exact hkeep hb0' hu hx ho
  ·exact touched ht1 hv rfl hHp1
  ·exact touched ht1 hv rfl hHp1
  ·omega
 have hdis : ∀ i j b c x,postBlks (noLent m.lent) (renId m.σ (idsLive s.post) s.n nx) m.σ s.n nx L' m.leaves s.post H i = some b ->
   postBlks (noLent m.lent) (renId m.σ (idsLive s.post) s.n nx) m.σ s.n nx L' m.leaves s.post H j = some c -> i ≠ j -> fp' i x -> ¬ fp' j x := by
  intro i j b c x hb hc hij hx hy
  rcases hown' hb hx with ⟨b0,g1,g2,g3⟩ | ⟨t,bp,g1,rfl,g2,g3⟩ <;> rcases hown' hc hy with ⟨c0,l1,l2,l3⟩ | ⟨t',cp,l1,rfl,l2,l3⟩
  ·exact hs.disj _ _ _ _ x g1 l1 hij g2 l2
  ·exact hsep hb g1 g2 l1 l2 l3
  ·exact hsep hc l1 l2 g1 g2 g3
  ·exact hsim.disj t t' _ _ x g2 l2 (by omega) g3 l3
 have hro' : ∀ ad v,E'.M ad = some v -> ad.spot = none /\ w'.cell? ad = some v /\ ∀ i b,postBlks (noLent m.lent) (renId m.σ (idsLive s.post) s.n nx) m.σ s.n nx L' m.leaves s.post H i = some b -> ¬ fp' i (ad.block,ad.off) := by
  intro ad v hm
  simp only [E'] at hm
  split at hm
  ·rename_i hl
   obtain ⟨h1,h2,h3⟩ := hsim.ro ad v hm
   refine ⟨h1,h2,fun i b hb hx => ?_⟩
   rcases hown' hb hx with ⟨b0,g1,g2,_⟩ | ⟨t,bp,g1,rfl,g2,g3⟩
   ·rcases hext ad v hm with hx' | hx' | ho
    ·exact (hs.ro ad v (hbM hl ad v hx')).2.2 i b0 g1 g2
    ·have := hs.cell_lt g1 g2
     simp only at this
     omega
    ·obtain ⟨t0,v0,ht0,hv0,hid0,hx0⟩ := F2 g1 g2 ho
     have touched : ∀ {t1 b1 v1},t1 < s.n -> m.σ[t1]? = some v1 -> viewId v1 = some i -> fHeap L' m.leaves noHeap s.post t1 = some b1 -> False := by
      intro t1 b1 v1 k1 k2 k3 k4
      have he : t0 = t1 := hinj t0 t1 i (hview ht0 ⟨_,hv0,hid0⟩).2 (hview k1 ⟨_,k2,k3⟩).2
      subst he
      exact h3 t0 _ k4 ((F4 k1 k4 _).2 hx0)
     rcases hcase hb with ⟨_,hb0',hu⟩ | ⟨t1,bp1,p,hp,hfb,hHp1,ht1,hv,hr⟩ | ⟨t1,lo,n,g,kd,xs,g',ys,hHp1,ht1,hv,hb0',rfl⟩ | ⟨t1,bp1,p,hp,hfb,hHp1,ht1,rfl,hr⟩
     ·exact hkeep hb0' hu g2 ho
     ·exact touched ht1 hv rfl hHp1
     ·exact touched ht1 hv rfl hHp1
     ·have := hlt g1; omega
   ·exact h3 t _ g2 g3
  ·obtain ⟨h1,h2,h3⟩ := hs.ro ad v hm
   have hno : ¬ OwnAll (fHeap m.leaves m.leaves noHeap s.pre) (baseFp E fp m.σ) (ad.block,ad.off) := by
    intro ho
    obtain ⟨t,v,id,b,_,_,_,g3,g4,_⟩ := F1 ho
    exact h3 id b g3 g4
   refine ⟨h1,hfrm.cell h2 hno,fun i b hb hx => ?_⟩
   rcases hown' hb hx with ⟨b0,g1,g2,_⟩ | ⟨t,bp,g1,rfl,g2,g3⟩
   ·exact h3 i b0 g1 g2
   ·refine hno (F3 g2 g3 ?_)
    unfold World.cell? at h2
    split at h2
    ·rename_i h; exact heap_lt h
    ·simp at h2
 refine ⟨u,E',postBlks (noLent m.lent) (renId m.σ (idsLive s.post) s.n nx) m.σ s.n nx L' m.leaves s.post H,fp',_,_,he,h5,ren_RV hρ hro q4 hret,?_,?_⟩
 ·exact ⟨fun id b hb => (hblk hb).1,hdis,hro'⟩
 ·refine ⟨hle,hfrm.mono fun x hx => ?_,fun x hx hl => ?_,by omega,fun id hid => ?_,?_⟩
  ·obtain ⟨t,v,id,b,_,_,_,g3,g4,_⟩ := F1 hx
   exact ⟨id,b,g3,g4⟩
  ·obtain ⟨id,b,hb,hx'⟩ := hx
   rcases hown' hb hx' with ⟨b0,g1,g2,_⟩ | ⟨t,bp,_,_,g1,g2⟩
   ·exact ⟨id,b0,g1,g2⟩
   ·obtain ⟨t,v,id,b,_,_,_,g3,g4,_⟩ := F1 (F3 g1 g2 hl)
    exact ⟨id,b,g3,g4⟩
  ·simp only [E']
   rw [if_neg (by omega)]
   split
   ·rename_i h
    obtain ⟨p,hp,_⟩ := idsLive_get h
    have := below_mem q9 hp
    omega
   ·rfl
  ·intro ad v hm
   simp only [E'] at hm
   split at hm
   ·rename_i hl
    rcases hext ad v hm with h | h | ho
    ·exact Or.inl (hbM hl ad v h)
    ·exact Or.inr (Or.inl h)
    ·obtain ⟨t,v,id,b,_,_,_,g3,g4,_⟩ := F1 ho
     exact Or.inr (Or.inr ⟨id,b,g3,g4⟩)
   ·exact Or.inl hm
end Go.Eng
/-
 The engine, part six and a half: a struct is appended to a row of structs.
 Conditions: none; nothing is claimed of the program here.
-/
namespace Go.Eng
variable {RT : RoTab} {E : Env} {F : Fr} {a : Act} {H : Heap} {fp : Fp} {w : World} {P : Program} {Y : Type} {y : Y}
theorem recOf_fst : ∀ {cs : List Atom} {T : RecT} {row : List Int},recOf cs = some (T,row) -> T.fst = false
 | [],T,row,h => by simp only [recOf,Option.some.injEq,Prod.mk.injEq] at h; obtain ⟨rfl,rfl⟩ := h; rfl
 | .roi k xs :: [],T,row,h => by simp only [recOf,Option.some.injEq,Prod.mk.injEq] at h; obtain ⟨rfl,rfl⟩ := h; rfl
 | .int k n :: r,T,row,h => by
  simp only [recOf] at h
  split at h
  ·simp only [Option.some.injEq,Prod.mk.injEq] at h; obtain ⟨rfl,rfl⟩ := h; rfl
  ·simp at h
theorem recOf_rec : ∀ {cs : List Atom} {T : RecT} {row : List Int},recOf cs = some (T,row) -> recA T row = cs
 | [],T,row,h => by
  simp only [recOf,Option.some.injEq,Prod.mk.injEq] at h
  obtain ⟨rfl,rfl⟩ := h
  rfl
 | .roi k xs :: [],T,row,h => by
  simp only [recOf,Option.some.injEq,Prod.mk.injEq] at h
  obtain ⟨rfl,rfl⟩ := h
  rfl
 | .int k n :: r,T,row,h => by
  simp only [recOf] at h
  split at h
  ·rename_i T' row' hr
   simp only [Option.some.injEq,Prod.mk.injEq] at h
   obtain ⟨rfl,rfl⟩ := h
   have := recOf_rec hr
   simp only [recA,recAs,List.headD_cons,List.tail_cons]
   simp only [recA,recOf_fst hr] at this
   rw [this]
  ·simp at h
def HoldsV (w : World) (us : List Value) (base : Option Addr) : Prop :=
 ∀ i,i < us.length -> ∃ a,base = some a /\ a.spot = none /\ w.cell? ⟨a.block,a.off + i,none⟩ = us[i]?
theorem firstV_run {us : List Value} {base : Option Addr} {sz n l c : Nat} (h : HoldsV w us base) (hl : us.length = n * sz) :
  (Builtin.firstCells sz n (.slice base l c)).run P w = .ok us.toArray w := by
 cases base with
 | none =>
  have : us = [] := by
   cases us with
   | nil => rfl
   | cons u us => obtain ⟨a,hb,_⟩ := h 0 (by simp); simp at hb
  subst this
  simp [Builtin.firstCells]
 | some a =>
  simp only [Builtin.firstCells]
  rcases Nat.eq_zero_or_pos us.length with h0 | h0
  ·have : us = [] := by simpa using h0
   subst this
   rw [<- hl]
   simp [loadCells,loadCellsFrom]
  ·obtain ⟨a',hb,hsp,_⟩ := h 0 h0
   obtain rfl := Option.some.inj hb
   have := run_loadCells (P:=P) w a (n * sz) (fun j => us.getD j undef) (fun j hj => by
    obtain ⟨a',hb,_,hm⟩ := h j (by omega)
    obtain rfl := Option.some.inj hb
    rw [addr_eta hsp,add_lit,hm,List.getD_eq_getElem?_getD,List.getElem?_eq_getElem (by omega)]
    rfl)
   rw [this]
   congr 2
   apply List.ext_getElem?
   intro j
   by_cases hj : j < us.length
   ·simp [List.getD_eq_getElem?_getD,hj,show j < n * sz by omega]
   ·rw [List.getElem?_eq_none (by simp; omega),List.getElem?_eq_none (by omega)]
theorem appendV_run0 {t t2 : TypeId} {e e2 : TypeId} {sz n m cap : Nat} {us vs : List Value} {base : Option Addr} {u : Value} (hu : P.underlying t = some (.slice e))
  (hu2 : P.underlying t2 = some (.slice e2)) (hh : hasT P e = true) (hsz : sizeT P e = sz) (hbytes : P.bytesOf e <= 64) (hzv : ∀ w,∃ zv,(zeroValue e).run P w = .ok zv w /\ zv.cells.size = sz)
  (hx : HoldsV w us base) (hxl : us.length = n * sz) (hyl : vs.length = m * sz) (hlen : (Builtin.lenOf u).run P w = .ok m w) (hfy : (Builtin.firstCells sz m u).run P w = .ok vs.toArray w) (hfy2 : (Builtin.firstCells sz m u).run P w.drew = .ok vs.toArray w.drew) (hb : n + m <= mostR) (o : TypeId) :
  (n + m <= cap /\ ∀ w',Stored P w base (n * sz) vs w' ->
   (Builtin.append_ #[t,t2] o #[.slice base n cap,u]).run P w = .ok (.slice base (n + m) cap) w') \/
  (cap < n + m /\ ∃ newCap cs,n + m <= newCap /\ cs.size = newCap * sz /\ (∀ j,j < (us ++ vs).length -> cs[j]? = (us ++ vs)[j]?) /\
   (Builtin.append_ #[t,t2] o #[.slice base n cap,u]).run P w = .ok (.slice (some ⟨w.heap.size,0,none⟩) (n + m) newCap) (w.drew.alloc (.cells cs e))) := by
 have hti : ∀ v : World,(typeInfo e).run P v = .ok ((P.info? e).getD default) v := fun v => by
  unfold hasT at hh
  cases hi : P.info? e with
  | none => simp [hi] at hh
  | some i => simp [typeInfo,hi]
 have hby : ((P.info? e).getD default).bytes <= 64 := by
  unfold Program.bytesOf at hbytes
  unfold hasT at hh
  cases hi : P.info? e with
  | none => simp [hi] at hh
  | some i => simpa [hi] using hbytes
 by_cases hroom : n + m <= cap
 ·refine Or.inl ⟨hroom,fun w' hw' => ?_⟩
  cases base with
  | none =>
   simp only [Stored] at hw'
   subst hw'
   simp [Builtin.append_,run_und hu,run_und hu2,run_size hh,hsz,hlen,hfy,hroom]
  | some a =>
   simp only [Stored] at hw'
   simp [Builtin.append_,run_und hu,run_und hu2,run_size hh,hsz,hlen,hfy,hroom,hw']
 ·refine Or.inr ⟨by omega,?_⟩
  obtain ⟨zv,hzv2,hz1⟩ := hzv w.drew
  have hfx : (Builtin.firstCells sz n (.slice base n cap)).run P w.drew = .ok us.toArray w.drew := firstV_run (w:=w.drew) hx hxl
  let q := Question.appendCap (n + m) cap e
  let nc := q.cut (w.tape w.drawn q)
  have hnc : n + m <= nc := by simp only [nc,q,Question.cut]; omega
  let cs : Array Value := us.toArray ++ vs.toArray ++ Builtin.zeroCells zv.cells (nc - (n + m))
  have hcs : cs.size = nc * sz := by
   have : (nc - (n + m)) * sz + (n + m) * sz = nc * sz := by rw [<- Nat.add_mul]; congr 1; omega
   rw [Nat.add_mul] at this
   simp [cs,Builtin.zeroCells,hz1]
   omega
  refine ⟨nc,cs,hnc,hcs,fun j hj => ?_,?_⟩
  ·simp only [cs]
   rw [Array.getElem?_append_left (by simpa using hj)]
   simp [Array.getElem?_append,List.getElem?_append]
  ·have hbig : ¬ ((n + m : Nat) : Int) > IntKind.i64.max := by
    have h1 : IntKind.i64.max = 9223372036854775807 := rfl
    have h2 : mostR = 1000000 := rfl
    omega
   have hnext : ¬ Builtin.nextslicecap (n + m) cap * ((P.info? e).getD default).bytes > 2 ^ 48 := by
    have h1 := nextcap_le (n:=n + m) (c:=cap) (by omega)
    have h3 : Builtin.nextslicecap (n + m) cap * ((P.info? e).getD default).bytes <= (2 * (n + m) + 192) * 64 := Nat.mul_le_mul h1 hby
    have h2 : mostR = 1000000 := rfl
    omega
   have hq : (Question.appendCap (n + m) cap e).forced = false := rfl
   have hch : (choose (.appendCap (n + m) cap e)).run P w = .ok nc w.drew := by
    simp only [run_choose,hq,Bool.false_eq_true,if_false]
    rfl
   simp only [Builtin.append_,List.getElem?_toArray,List.getElem?_cons_zero,List.getElem?_cons_succ,Sem.run_bind,run_und hu,Result.andThen_ok,run_size hh,hsz,run_und hu2,Sem.run_pure,Bool.false_eq_true,if_false,hlen,hroom,hti,hbig,false_and,hnext,hch,run_askRoom,hfx,Bool.not_false,if_true,hfy2,hzv2,newRow,run_newObj]
   rfl
theorem appendV_run {t t2 : TypeId} {e e2 : TypeId} {sz n m cap cap2 : Nat} {us vs : List Value} {base base2 : Option Addr} (hu : P.underlying t = some (.slice e))
  (hu2 : P.underlying t2 = some (.slice e2)) (hh : hasT P e = true) (hsz : sizeT P e = sz) (hbytes : P.bytesOf e <= 64) (hzv : ∀ w,∃ zv,(zeroValue e).run P w = .ok zv w /\ zv.cells.size = sz)
  (hx : HoldsV w us base) (hxl : us.length = n * sz) (hy : HoldsV w vs base2) (hyl : vs.length = m * sz) (hb : n + m <= mostR) (o : TypeId) :
  (n + m <= cap /\ ∀ w',Stored P w base (n * sz) vs w' ->
   (Builtin.append_ #[t,t2] o #[.slice base n cap,.slice base2 m cap2]).run P w = .ok (.slice base (n + m) cap) w') \/
  (cap < n + m /\ ∃ newCap cs,n + m <= newCap /\ cs.size = newCap * sz /\ (∀ j,j < (us ++ vs).length -> cs[j]? = (us ++ vs)[j]?) /\
   (Builtin.append_ #[t,t2] o #[.slice base n cap,.slice base2 m cap2]).run P w = .ok (.slice (some ⟨w.heap.size,0,none⟩) (n + m) newCap) (w.drew.alloc (.cells cs e))) :=
 appendV_run0 hu hu2 hh hsz hbytes hzv hx hxl hyl rfl (firstV_run hy hyl) (firstV_run (w:=w.drew) hy hyl) hb o
def RecR (RT : RoTab) (E : Env) (T : RecT) (xss : List (List Int)) (us : List Value) : Prop :=
 us.length = xss.length * recW T /\ ∀ i j x,i < xss.length -> (recA T (xss.getD i []))[j]? = some x -> ∃ v,us[i * recW T + j]? = some v /\ R RT E x v
theorem RecR.snoc {T : RecT} {xss : List (List Int)} {row : List Int} {us vs : List Value} (h : RecR RT E T xss us) (hv : RecR RT E T [row] vs) : RecR RT E T (xss ++ [row]) (us ++ vs) := by
 have hvl : vs.length = recW T := by have := hv.1; simpa using this
 refine ⟨by rw [List.length_append,List.length_append,h.1,hvl,List.length_singleton,Nat.add_mul,Nat.one_mul],fun i j x hi hj => ?_⟩
 rw [List.length_append,List.length_singleton] at hi
 have hjw : j < recW T := by
  rw [<- recA_len T ((xss ++ [row]).getD i [])]
  rcases Nat.lt_or_ge j (recA T ((xss ++ [row]).getD i [])).length with h' | h'
  ·exact h'
  ·rw [List.getElem?_eq_none h'] at hj; simp at hj
 by_cases hix : i < xss.length
 ·have hg : (xss ++ [row]).getD i [] = xss.getD i [] := by simp [List.getD_eq_getElem?_getD,List.getElem?_append_left hix]
  rw [hg] at hj
  obtain ⟨v,h1,h2⟩ := h.2 i j x hix hj
  have := cell_in hix hjw
  exact ⟨v,by rw [List.getElem?_append_left (by rw [h.1]; exact this)]; exact h1,h2⟩
 ·have hi' : i = xss.length := by omega
  subst hi'
  have hg : (xss ++ [row]).getD xss.length [] = row := by simp [List.getD_eq_getElem?_getD]
  rw [hg] at hj
  obtain ⟨v,h1,h2⟩ := hv.2 0 j x (by simp) (by simpa using hj)
  refine ⟨v,?_,h2⟩
  rw [List.getElem?_append_right (by rw [h.1]; omega),h.1,show xss.length * recW T + j - xss.length * recW T = j by omega]
  simpa using h1
theorem RecR.one {T : RecT} {xss : List (List Int)} {us : List Value} (h : RecR RT E T xss us) : ∀ u ∈ us,u.oneCell' = true := by
 intro u hu
 obtain ⟨p,hp,rfl⟩ := List.getElem_of_mem hu
 have hw : 0 < recW T := by
  rcases Nat.eq_zero_or_pos (recW T) with h0 | h0
  ·rw [h.1,h0] at hp; omega
  ·exact h0
 have hi : p / recW T < xss.length := by
  rw [Nat.div_lt_iff_lt_mul hw,<- h.1]
  exact hp
 have hj : p % recW T < recW T := Nat.mod_lt _ hw
 have hlen := recA_len T (xss.getD (p / recW T) [])
 obtain ⟨v,h1,h2⟩ := h.2 (p / recW T) (p % recW T) _ hi (List.getElem?_eq_getElem (by omega))
 have hpe : p / recW T * recW T + p % recW T = p := by rw [Nat.mul_comm]; exact Nat.div_add_mod _ _
 rw [hpe,List.getElem?_eq_getElem hp] at h1
 obtain rfl := Option.some.inj h1
 rcases recA_io (List.getElem?_eq_getElem (show p % recW T < (recA T (xss.getD (p / recW T) [])).length by omega)) with ⟨k,n,hx⟩ | ⟨k,l,hx⟩
 ·have hx' : (recA T (xss.getD (p / recW T) []))[p % recW T]'(by omega) = .int k n := hx
  rw [hx'] at h2
  rw [R.int_inv h2]
  rfl
 ·have hx' : (recA T (xss.getD (p / recW T) []))[p % recW T]'(by omega) = .roi k l := hx
  rw [hx'] at h2
  generalize us[p] = u at h2
  cases h2
  rfl
theorem RecR.mono {E' : Env} {T : RecT} {xss : List (List Int)} {us : List Value} (hE : E.Le E') (h : RecR RT E T xss us) : RecR RT E' T xss us :=
 ⟨h.1,fun i j x hi hj => let ⟨v,h1,h2⟩ := h.2 i j x hi hj; ⟨v,h1,h2.mono hE⟩⟩
theorem recs_ok {T : RecT} {xss : List (List Int)} {us : List Value} {I : Info} {f : Nat × Nat -> Prop} (h : RecR RT E T xss us) (hown : ∀ x,f x ↔ Own I x) (hcap : I.n <= I.cap)
  (hlive : ∀ x,f x -> ∃ v,w.cell? ⟨x.1,x.2,none⟩ = some v /\ w.frozen? ⟨x.1,x.2,none⟩ = false) (hw : I.w = recW T) (hn : I.n = xss.length) (hg : I.grow = true)
  (hc : ∀ p,p < us.length -> w.cell? ⟨I.cb,I.coff + p,none⟩ = us[p]?) : BlkOK RT E (.recs true T xss) I f w :=
 ⟨hown,hcap,hlive,hw,hn,fun _ => hg,fun i j x hi hj => by
  obtain ⟨v,h1,h2⟩ := h.2 i j x hi hj
  have hp : i * recW T + j < us.length := by
   rcases Nat.lt_or_ge (i * recW T + j) us.length with h' | h'
   ·exact h'
   ·rw [List.getElem?_eq_none h'] at h1; simp at h1
  exact ⟨v,by rw [hw,hc _ hp,h1],h2⟩⟩
theorem grownV_sound {nx : Nat} {T : RecT} {xss : List (List Int)} {us : List Value} {cs : Array Value} {e : TypeId} {nn : Bool} {newCap : Nat} {H0 : Heap} (hs : Sim RT E H fp w) (hf : Fresh E nx)
  (hsub : ∀ id b,H id = some b -> H0 id = some b) (hcap : xss.length <= newCap) (hr : RecR RT E T xss us) (hcs : cs.size = newCap * recW T) (hc : ∀ j,j < us.length -> cs[j]? = us[j]?) :
  ∃ E' fp',RV RT E' (.at (.full nx nn)) (.slice (some ⟨w.heap.size,0,none⟩) xss.length newCap) /\ Sim RT E' (putH H nx (some (.recs true T xss))) fp' (w.drew.alloc (.cells cs e)) /\
   Step E H0 fp w nx E' (putH H nx (some (.recs true T xss))) fp' (w.drew.alloc (.cells cs e)) (nx + 1) := by
 have hd := hs.frm (Frm.drew w (fun _ => False)) (fun _ _ h => h) (fun _ _ _ h => h)
 let I : Info := ⟨w.heap.size,0,xss.length,newCap,recW T,true⟩
 have hle : E.Le (putI E nx I) := putI_le (hf nx (Nat.le_refl _))
 have hown : ∀ x,Own I x -> x.1 = w.heap.size /\ x.2 < newCap * recW T := fun x hx => by
  obtain ⟨h1,h2,h3⟩ := hx
  simp only [I,if_true] at h1 h3
  exact ⟨h1,by omega⟩
 have ok : BlkOK RT (putI E nx I) (.recs true T xss) I (Own I) (w.drew.alloc (.cells cs e)) :=
  recs_ok (hr.mono hle) (fun _ => Iff.rfl) hcap (fun x hx => by
   obtain ⟨h1,h2⟩ := hown x hx
   have e1 : w.heap.size = w.drew.heap.size := rfl
   rw [h1,e1,cells_alloc,frozen_alloc]
   exact ⟨cs[x.2]'(by omega),by simp,rfl⟩) rfl rfl rfl (fun p hp => by
   show (w.drew.alloc (.cells cs e)).cell? ⟨w.drew.heap.size,0 + p,none⟩ = _
   rw [Nat.zero_add,cells_alloc,hc p hp])
 have g1 := Sim.add (nx:=nx) (O:=fun _ => False) hd (hf nx (Nat.le_refl _)) (Frm.alloc w.drew (.cells cs e) (fun _ => False)) (fun _ _ h => h) (fun _ _ _ h => h) ok (fun x hx => new_apart hd (hown x hx).1)
 refine ⟨_,_,?_,g1,Step.add hf hsub ((Frm.drew w _).trans (Frm.alloc w.drew (.cells cs e) _) fun x hx _ => hx) (fun x hx hlt => ?_)⟩
 ·exact R.full (I:=I) (base:=some ⟨w.heap.size,0,none⟩) (by simp [putI]) (Or.inl rfl) (fun _ => rfl) hcap (fun _ => rfl)
 ·have := (hown x hx).1
  omega
theorem zeroLen_facts {e : TypeId} {sz : Nat} (h : zeroLen P e sz = true) : hasT P e = true /\ ∀ w : World,∃ zv,(zeroValue e).run P w = .ok zv w /\ zv.cells.size = sz := by
 unfold zeroLen at h
 split at h
 ·rename_i z hz
  have hl := Nat.eq_of_beq_eq_true h
  rw [lenA_eq] at hl
  refine ⟨?_,fun w => ?_⟩
  ·obtain ⟨_,_,_,hh⟩ := zero_sound (P:=P) (w:=default) (RT:=fun _ => none) (E:=⟨fun _ => none,fun _ => none⟩) hz
   exact hh
  ·obtain ⟨zv,h1,h2,_⟩ := zero_sound (P:=P) (w:=w) (RT:=fun _ => none) (E:=⟨fun _ => none,fun _ => none⟩) hz
   exact ⟨zv,h1,by rw [h2.1,hl]⟩
 ·simp at h
theorem emp_add0 {nx : Nat} (base : Option Addr) (T : RecT) (hs : Sim RT E H fp w) (hf : Fresh E nx) : ∃ E' fp',RV RT E' (.at (.full nx false)) (.slice base 0 0) /\ Sim RT E' (putH H nx (some (.recs true T []))) fp' w /\
  Step E H fp w nx E' (putH H nx (some (.recs true T []))) fp' w (nx + 1) := by
 have hno : ∀ x,¬ Own ⟨0,0,0,0,recW T,true⟩ x := fun x hx => by
  obtain ⟨_,h1,h2⟩ := hx
  simp only [if_true,Nat.zero_mul] at h2
  omega
 have hadd := Sim.add (nx:=nx) (b:=.recs true T []) (I:=⟨0,0,0,0,recW T,true⟩) (w' := w) (O:=fun _ => False) hs (hf _ (Nat.le_refl _)) (Frm.refl w _) (fun _ _ h => h) (fun _ _ _ h => h)
  ⟨fun _ => Iff.rfl,Nat.le_refl _,fun x hx => absurd hx (hno x),rfl,rfl,fun _ => rfl,fun i j x hi => by simp at hi⟩ (fun x hx => absurd hx (hno x))
 exact ⟨_,_,R.full (I:=⟨0,0,0,0,recW T,true⟩) (by simp [putI]) (Or.inr ⟨rfl,fun _ => rfl⟩) (fun h => by simp at h) (Nat.le_refl _) (fun _ => rfl),hadd,Step.add hf (fun _ _ h => h) (Frm.refl w _) (fun x hx => absurd hx (hno x))⟩
theorem appendR_sound {nx : Nat} {t t2 o e : TypeId} {x z : AV} {ux uz : Value} {k : AV -> Heap -> Nat -> Option Y} (hs : Sim RT E H fp w) (hf : Fresh E nx)
  (hx : RV RT E x ux) (hz : RV RT E z uz) (hse : structE P t = some e) (hk : appendR P H nx t2 e x z k = some y) :
  ∃ v H' nx' E' fp' u w',k v H' nx' = some y /\ (Builtin.append_ #[t,t2] o #[ux,uz]).run P w = .ok u w' /\ RV RT E' v u /\ Sim RT E' H' fp' w' /\ Step E H fp w nx E' H' fp' w' nx' := by
 have hu : P.underlying t = some (.slice e) := by
  unfold structE at hse
  split at hse
  ·rename_i e' hu
   split at hse
   ·simp only [Option.some.injEq] at hse; subst hse; exact hu
   ·simp at hse
  ·simp at hse
 unfold appendR at hk
 split at hk
 ·rename_i e2 id2 nn2 hu2
  split at hk
  ·rename_i wd cs hb2
   split at hk
   ·rename_i T row hrec
    rw [gate_some] at hk
    obtain ⟨hg,hk⟩ := hk
    simp only [Bool.and_eq_true] at hg
    obtain ⟨g1,g2,g3,g4,g5⟩ := hg
    have g1 := Nat.eq_of_beq_eq_true g1
    rw [lenA_eq] at g1
    have g2 := Nat.eq_of_beq_eq_true g2
    have g4 := Nat.le_of_ble_eq_true g4
    obtain ⟨hh,hzv⟩ := zeroLen_facts g5
    have hwd : 0 < wd := Nat.lt_of_lt_of_le Nat.zero_lt_one (by simpa [Nat.blt] using g3)
    have hcs := recOf_rec hrec
    have hrw : recW T = wd := by rw [<- recA_len T row,hcs,g1]
    -- the element
    obtain ⟨base2,cap2,vs,rfl,hyV,hyl,hyR⟩ : ∃ base2 cap2 vs,uz = .slice base2 1 cap2 /\ HoldsV w vs base2 /\ vs.length = 1 * wd /\ RecR RT E T [row] vs := by
     cases hz with
     | full hI hbase hn hcc hgg =>
      rename_i cap I base
      obtain ⟨J,hJ,ok⟩ := hs.blk _ _ hb2
      rw [hI] at hJ
      obtain rfl := Option.some.inj hJ
      obtain ⟨kw,kn,kg,kc⟩ := ok.kind
      have hn1 : I.n = 1 := by
       rw [g1] at kn
       rcases Nat.lt_trichotomy I.n 1 with h | h | h
       ·have : I.n = 0 := by omega
        rw [this] at kn; omega
       ·exact h
       ·have := Nat.mul_le_mul_right wd h
        omega
      have hb : base = some ⟨I.cb,I.coff,none⟩ := by
       rcases hbase with h | ⟨h,_⟩
       ·exact h
       ·omega
      subst hb
      have hcell : ∀ j,j < wd -> ∃ v,w.cell? ⟨I.cb,I.coff + j,none⟩ = some v /\ ∀ x,cs[j]? = some x -> R RT E x v := fun j hj => by
       obtain ⟨v,h1,h2⟩ := kc j _ (List.getElem?_eq_getElem (by omega))
       exact ⟨v,h1,fun x hx => by rw [List.getElem?_eq_getElem (by omega)] at hx; obtain rfl := Option.some.inj hx; exact h2⟩
      refine ⟨_,cap,(List.range wd).map fun j => (w.cell? ⟨I.cb,I.coff + j,none⟩).getD undef,by rw [hn1],fun i hi => ?_,by simp,by simp [hrw],fun i j x hi hj => ?_⟩
      ·have hi' : i < wd := by simpa using hi
       obtain ⟨v,h1,_⟩ := hcell i hi'
       exact ⟨_,rfl,rfl,by simp [h1,hi']⟩
      ·have : i = 0 := by simpa using hi
       subst this
       have hj' : cs[j]? = some x := by rw [<- hcs]; simpa using hj
       have hjw : j < wd := by
        rcases Nat.lt_or_ge j cs.length with h | h
        ·omega
        ·rw [List.getElem?_eq_none h] at hj'; simp at hj'
       obtain ⟨v,h1,h2⟩ := hcell j hjw
       exact ⟨v,by simp [h1,hjw],h2 x hj'⟩
    split at hk
    ·-- onto nothing
     have hx' : ux = .slice none 0 0 := by cases hx; rfl
     subst hx'
     have hxV : HoldsV w [] none := fun i hi => by simp at hi
     rcases appendV_run (P:=P) (w:=w) (n:=0) (m:=1) (cap:=0) (cap2:=cap2) hu hu2 hh g2.symm g4 (by rw [g2] at hzv; rw [g2]; exact hzv) hxV (by simp) hyV hyl (by decide) o with ⟨hr,_⟩ | ⟨_,newCap,ca,h1,h2,h3,h4⟩
     ·omega
     ·simp only [List.nil_append,Nat.zero_add] at h1 h3 h4
      obtain ⟨E',fp',q1,q2,q3⟩ := grownV_sound (H0:=H) (nx:=nx) (nn:=false) (e:=e) (newCap:=newCap) hs hf (fun _ _ h => h) (by simpa using h1) hyR (by rw [h2,hrw]) h3
      exact ⟨_,_,_,E',fp',_,_,hk,h4,q1,q2,q3⟩
    ·rename_i id nn
     split at hk
     ·rename_i T' xss hb
      rw [gate_some,eqT_iff,chk_some] at hk
      obtain ⟨rfl,hbd,hk⟩ := hk
      have hne : id ≠ id2 := fun h => by rw [h,hb2] at hb; simp at hb
      cases hx with
      | full hI hbase hn hcc hgg =>
       rename_i cap I base
       obtain ⟨J,hJ,ok⟩ := hs.blk _ _ hb
       rw [hI] at hJ
       obtain rfl := Option.some.inj hJ
       obtain ⟨hw,hnn,hgr,hc⟩ := ok.kind
       have hgr := hgr rfl
       have hcap := ok.cap
       obtain rfl := hgg hgr
       rw [hrw] at hw
       have hsk : Sim RT E (putH H id none) fp w := hs.sub kill_sub
       have hlive0 : ∀ p,p < I.cap * wd -> fp id (I.cb,I.coff + p) := fun p hp => by
        refine (ok.own _).2 ⟨rfl,by simp,?_⟩
        simp only [hgr,if_true,hw]
        omega
       have hnc : xss.length * wd <= I.cap * wd := Nat.mul_le_mul_right wd (by omega)
       obtain ⟨us,hus⟩ : ∃ us : List Value,us = (List.range (xss.length * wd)).map fun p => (w.cell? ⟨I.cb,I.coff + p,none⟩).getD undef := ⟨_,rfl⟩
       have husl : us.length = xss.length * wd := by rw [hus]; simp
       have hcellU : ∀ p,p < us.length -> w.cell? ⟨I.cb,I.coff + p,none⟩ = us[p]? := fun p hp => by
        obtain ⟨v,h1,_⟩ := ok.live _ (hlive0 p (by omega))
        have hp' : p < xss.length * wd := by omega
        simp only at h1
        rw [hus]
        simp [h1,hp']
       have hxR : RecR RT E T xss us := ⟨by rw [husl,hrw],fun i j x hi hj => by
        obtain ⟨v,h1,h2⟩ := hc i j x hi hj
        have hjw : j < wd := by
         rw [<- hrw,<- recA_len T (xss.getD i [])]
         rcases Nat.lt_or_ge j (recA T (xss.getD i [])).length with h' | h'
         ·exact h'
         ·rw [List.getElem?_eq_none h'] at hj; simp at hj
        have := cell_in hi hjw
        rw [hrw,<- hcellU _ (by rw [husl]; exact this)]
        rw [hw] at h1
        exact ⟨v,h1,h2⟩⟩
       have hxV : HoldsV w us base := fun i hi => by
        rcases hbase with hbase | ⟨h0,_⟩
        ·exact ⟨_,hbase,rfl,hcellU i hi⟩
        ·rw [husl,<- hnn,h0] at hi; omega
       have hall := hxR.snoc hyR
       have hvl : vs.length = wd := by omega
       rw [hnn]
       rcases appendV_run (P:=P) (w:=w) (n:=xss.length) (m:=1) (cap:=I.cap) (cap2:=cap2) hu hu2 hh g2.symm g4 (by rw [g2] at hzv; rw [g2]; exact hzv) hxV husl hyV hyl hbd o with ⟨hr,hrun⟩ | ⟨_,newCap,ca,h1,h2,h3,h4⟩
       ·-- in place
        let J : Info := ⟨I.cb,I.coff,xss.length + 1,I.cap,wd,true⟩
        have hJI : ∀ x,Own J x ↔ fp id x := fun x => by
         rw [ok.own x]
         simp only [Own,J,hgr,if_true,hw]
        have hn1c : (xss.length + 1) * wd <= I.cap * wd := Nat.mul_le_mul_right wd hr
        have hsum : (xss.length + 1) * wd = xss.length * wd + wd := by rw [Nat.add_mul,Nat.one_mul]
        have hb0 : base = some ⟨I.cb,I.coff,none⟩ := by
         rcases hbase with h | ⟨h,h2⟩
         ·exact h
         ·have := h2 hgr; omega
        subst hb0
        have hdead : ∀ x,OwnAll (putH H id none) fp x -> ¬ fp id x := by
         rintro x ⟨id',b',hb',hx'⟩ hfx
         rw [putH_eq] at hb'
         split at hb'
         ·simp at hb'
         ·rename_i hne
          exact hs.disj _ _ _ _ x (kill_sub id' b' (by rw [putH_eq,if_neg hne]; exact hb')) hb hne hx' hfx
        obtain ⟨w',s1,s2,s3⟩ := storeCells_run (P:=P) (b:=I.cb) (o:=I.coff + xss.length * wd) vs 0 w hyR.one (fun j hj => by
         have := ok.live _ (hlive0 (xss.length * wd + j) (by omega))
         simp only [Nat.zero_add]
         rw [<- Nat.add_assoc] at this
         exact this)
        have hF : Frm w (fun x => x.1 = I.cb /\ I.coff + xss.length * wd <= x.2 /\ x.2 < I.coff + xss.length * wd + wd) w' := by
         refine s2.mono fun x hx => ?_
         rw [Nat.add_zero,hvl] at hx
         exact hx
        have hOf : ∀ x : Nat × Nat,(x.1 = I.cb /\ I.coff + xss.length * wd <= x.2 /\ x.2 < I.coff + xss.length * wd + wd) -> fp id x := by
         rintro ⟨x1,x2⟩ ⟨rfl,hx2,hx3⟩
         have := hlive0 (x2 - I.coff) (by simp only at hx3; omega)
         rw [show I.coff + (x2 - I.coff) = x2 by simp only at hx2; omega] at this
         exact this
        have hle : E.Le (putI E nx J) := putI_le (hf nx (Nat.le_refl _))
        have hok : BlkOK RT (putI E nx J) (.recs true T (xss ++ [row])) J (Own J) w' := by
         refine recs_ok (hall.mono hle) (fun _ => Iff.rfl) hr (fun x hx => ?_) (by simp only [J]; exact hrw.symm) (by simp [J]) rfl (fun p hp => ?_)
         ·obtain ⟨v,hv,hz⟩ := ok.live x ((hJI x).1 hx)
          obtain ⟨v',hv'⟩ := hF.live hv
          exact ⟨v',hv',by rw [hF.frozen (World.block_lt_of_cell? _ _ hv)]; exact hz⟩
         ·rw [List.length_append,husl,hvl] at hp
          show w'.cell? ⟨I.cb,I.coff + p,none⟩ = _
          by_cases hpx : p < us.length
          ·rw [List.getElem?_append_left hpx]
           obtain ⟨v,hv⟩ : ∃ v,w.cell? ⟨I.cb,I.coff + p,none⟩ = some v := ⟨us[p],by rw [hcellU p hpx,List.getElem?_eq_getElem hpx]⟩
           rw [hF.cell hv (by simp; omega),<- hv,hcellU p hpx]
          ·rw [List.getElem?_append_right (by omega),husl]
           have := s3 (p - xss.length * wd) (by omega)
           rw [Nat.zero_add,Nat.add_assoc,show xss.length * wd + (p - xss.length * wd) = p by omega] at this
           exact this
        have hsim := Sim.add hsk (hf _ (Nat.le_refl _)) hF (fun x hx hO => hdead x hx (hOf x hO)) (fun a v ha hO => (hs.ro a v ha).2.2 id _ hb (hOf _ hO)) hok
         (fun x hx => ⟨fun id' b' hb' hx' => hdead x ⟨id',b',hb',hx'⟩ ((hJI x).1 hx),fun a v ha he => (hs.ro a v ha).2.2 id _ hb (by rw [he]; exact (hJI x).1 hx)⟩)
        have hstep : Step E H fp w nx (putI E nx J) (putH (putH H id none) nx (some (.recs true T (xss ++ [row])))) (putFp fp nx (Own J)) w' (nx + 1) :=
         Step.add hf kill_sub (hF.mono fun x hx => ⟨id,_,hb,hOf x hx⟩) (fun x hx _ => ⟨id,_,hb,(hJI x).1 hx⟩)
        refine ⟨_,_,_,_,_,_,_,hk,hrun w' (by simp only [Stored,add_lit]; exact s1),?_,hsim,hstep⟩
        exact R.full (I:=J) (base:=some ⟨I.cb,I.coff,none⟩) (by simp [putI]) (Or.inl rfl) (fun _ => rfl) hr (fun _ => rfl)
       ·obtain ⟨E',fp',q1,q2,q3⟩ := grownV_sound (H0:=H) (nx:=nx) (nn:=nn) (e:=e) (newCap:=newCap) hsk hf kill_sub (xss:=xss ++ [row]) (by simpa using h1) hall (by rw [h2,hrw]) h3
        rw [List.length_append,List.length_singleton] at q1
        exact ⟨_,_,_,E',fp',_,_,hk,h4,q1,q2,q3⟩
     ·simp at hk
    ·simp at hk
   ·simp at hk
  ·simp at hk
 ·rename_i e2 T ys hu2
  rw [gate_some,chk_some] at hk
  obtain ⟨hg,hbd,hk⟩ := hk
  simp only [Bool.and_eq_true] at hg
  obtain ⟨g3,g2,g4,g5⟩ := hg
  have hwd : 0 < recW T := Nat.lt_of_lt_of_le Nat.zero_lt_one (by simpa [Nat.blt] using g3)
  have g2 := Nat.eq_of_beq_eq_true g2
  have g4 := Nat.le_of_ble_eq_true g4
  obtain ⟨hh,hzv⟩ := zeroLen_facts g5
  obtain ⟨base2,cap2,vs,rfl,hyV,hyl,hyR⟩ : ∃ base2 cap2 vs,uz = .slice base2 ys.length cap2 /\ HoldsV w vs base2 /\ vs.length = ys.length * recW T /\ RecR RT E T ys vs := by
   have hz' : R RT E (.rro T ys) uz := hz
   cases hz' with
   | rro uu hc hq hr =>
    rename_i cap2 base2
    have hdm : ∀ p,p < ys.length * recW T -> p / recW T < ys.length /\ p % recW T < recW T /\ p / recW T * recW T + p % recW T = p := fun p hp =>
     ⟨Nat.div_lt_of_lt_mul (by rw [Nat.mul_comm]; exact hp),Nat.mod_lt _ hwd,by rw [Nat.mul_comm]; exact Nat.div_add_mod _ _⟩
    refine ⟨base2,cap2,(List.range (ys.length * recW T)).map fun p => uu (p / recW T) (p % recW T),rfl,fun i hi => ?_,by simp,by simp,fun i j x hi hj => ?_⟩
    ·have hi' : i < ys.length * recW T := by simpa using hi
     obtain ⟨h1,h2,h3⟩ := hdm i hi'
     obtain ⟨a,q1,q2,q3⟩ := hq _ _ h1 h2
     refine ⟨a,q1,q2,?_⟩
     rw [h3] at q3
     rw [(hs.ro _ _ q3).2.1]
     simp [hi']
    ·have hj' : j < recW T := by
      rw [<- recA_len T (ys.getD i [])]
      rcases Nat.lt_or_ge j (recA T (ys.getD i [])).length with h' | h'
      ·exact h'
      ·rw [List.getElem?_eq_none h'] at hj; simp at hj
     have hlt := cell_in hi hj'
     refine ⟨uu i j,?_,hr i j x hi hj⟩
     have e1 : (i * recW T + j) / recW T = i := by rw [Nat.add_comm,Nat.add_mul_div_right _ _ hwd,Nat.div_eq_of_lt hj',Nat.zero_add]
     have e2 : (i * recW T + j) % recW T = j := by rw [Nat.add_comm,Nat.add_mul_mod_self_right,Nat.mod_eq_of_lt hj']
     simp [hlt,e1,e2]
  have key : ∀ base,ux = .slice base 0 0 -> k (.at (.full nx false)) (putH H nx (some (.recs true T ys))) (nx + 1) = some y ->
    ∃ v H' nx' E' fp' u w',k v H' nx' = some y /\ (Builtin.append_ #[t,t2] o #[ux,.slice base2 ys.length cap2]).run P w = .ok u w' /\ RV RT E' v u /\ Sim RT E' H' fp' w' /\ Step E H fp w nx E' H' fp' w' nx' := by
   intro base hux hk
   subst hux
   have hxV : HoldsV w [] base := fun i hi => by simp at hi
   rcases appendV_run (P:=P) (w:=w) (n:=0) (m:=ys.length) (cap:=0) (cap2:=cap2) hu hu2 hh g2.symm g4 hzv hxV (by simp) hyV hyl (by omega) o with ⟨hr,hrun⟩ | ⟨_,newCap,ca,h1,h2,h3,h4⟩
   ·have hys : ys = [] := by simpa using hr
    subst hys
    have hv0 : vs = [] := by simpa using hyl
    subst hv0
    have hrun := hrun w (by cases base <;> rfl)
    obtain ⟨E',fp',q1,q2,q3⟩ := emp_add0 base T hs hf
    exact ⟨_,_,_,E',fp',_,_,hk,hrun,q1,q2,q3⟩
   ·simp only [List.nil_append,Nat.zero_add] at h1 h3 h4
    obtain ⟨E',fp',q1,q2,q3⟩ := grownV_sound (H0:=H) (nx:=nx) (nn:=false) (e:=e) (newCap:=newCap) hs hf (fun _ _ h => h) h1 hyR h2 h3
    exact ⟨_,_,_,E',fp',_,_,hk,h4,q1,q2,q3⟩
  split at hk
  ·have hx' : R RT E .nils ux := hx
   exact key none (by cases hx'; rfl) hk
  ·have hx' : R RT E .empt ux := hx
   cases hx' with
   | empt base => exact key base rfl hk
  ·simp at hk
 ·simp at hk
end Go.Eng
/-
 The engine, part nine: one operation.
 Conditions: none; nothing is claimed of the program here.
-/
namespace Go.Eng
variable {RT : RoTab} {E : Env} {F : Fr} {a : Act} {H : Heap} {fp : Fp} {w : World} {P : Program} {Y : Type} {y : Y}
def enters (P : Program) (g : Nat) : Bool :=
 match P.funcs[g]? with
 | some fn => match fn.body with
  | some _ => !(fn.name == "runtime.NumGoroutine")
  | none => false
 | none => false
theorem run_enter {g : Nat} {args : Array Value} (h : enters P g = true) : (callFunc g args).run P w = .ok (.enter g args) w := by
 unfold enters at h
 split at h
 ·rename_i fn hf
  split at h
  ·rename_i c hb
   have h1 : fn.name ≠ "runtime.NumGoroutine" := by simpa using h
   simp [callFunc,hf,h1,hb]
  ·simp at h
 ·simp at h
theorem pick_mem {s : Spec} {as : List AV} : ∀ {l : List (Nat × Spec)} {f : Nat},pick l f as = some s -> (f,s) ∈ l
 | [],f,h => by simp [pick] at h
 | (g,z) :: r,f,h => by
  simp only [pick] at h
  split at h
  ·rename_i hb
   simp only [Bool.and_eq_true] at hb
   have := Nat.eq_of_beq_eq_true hb.1
   cases h
   subst this
   exact List.mem_cons_self
  ·exact List.mem_cons_of_mem _ (pick_mem h)
theorem find_mem {α : Type 1} {s : α} : ∀ {l : List (Nat × α)} {f : Nat},find l f = some s -> (f,s) ∈ l
 | [],f,h => by simp [find] at h
 | (g,s') :: r,f,h => by
  simp only [find] at h
  split at h
  ·rename_i hb
   have := Nat.eq_of_beq_eq_true hb
   subst this
   simp only [Option.some.injEq] at h
   subst h
   exact List.mem_cons_self ..
  ·exact List.mem_cons_of_mem _ (find_mem h)
def Went (C : Cfg) (f : FuncId) (cargs : Array Value) (w : World) (E : Env) (H : Heap) (fp : Fp) (nx : Nat) (k : KC Y) (y : Y) : Prop :=
 Calls C.P f cargs w fun e w' => ∃ u E' H' fp' nx' v,e = .returned u /\ k v H' nx' = some y /\ RV C.RT E' v u /\ Sim C.RT E' H' fp' w' /\ Step E H fp w nx E' H' fp' w' nx'
def InlOK (C : Cfg) (inl : Inl) : Prop :=
 ∀ (Y : Type) (y : Y) (g : Nat) (args : List AV) (H : Heap) (nx : Nat) (k : KC Y) (E : Env) (fp : Fp) (w : World) (cargs : Array Value),inl Y g args H nx k = some y ->
  Sim C.RT E H fp w -> Fresh E nx -> All2 (RV C.RT E) args cargs.toList -> enters C.P g = true /\ Went C g cargs w E H fp nx k y
def ExtOK (P : Program) (g : Nat) : Prop := ∀ (x y c : Int) (w : World),0 <= x -> 0 <= y -> 0 <= c -> c <= 1 ->
 (callFunc g #[.int .u64 x,.int .u64 y,.int .u64 c]).run P w = .ok (.value (.tuple #[.int .u64 ((x + y + c) % 18446744073709551616),.int .u64 ((x + y + c) / 18446744073709551616)])) w
theorem findL_mem : ∀ {l : List (Nat × (List AV -> Option Bool))} {f : Nat} {φ : List AV -> Option Bool},findL l f = some φ -> (f,φ) ∈ l
 | [],_,_,h => by simp [findL] at h
 | (g,s) :: r,f,φ,h => by
  simp only [findL] at h
  split at h
  ·rename_i hb
   simp only [Option.some.injEq] at h
   subst h
   rw [Nat.eq_of_beq_eq_true hb]
   exact List.mem_cons_self ..
  ·exact List.mem_cons_of_mem _ (findL_mem h)
def LawOK (P : Program) (RT : RoTab) (g : Nat) (φ : List AV -> Option Bool) : Prop :=
 ∀ (args : List AV) (b : Bool) (E : Env) (w : World) (cargs : Array Value),φ args = some b -> Sim RT E noHeap (fun _ _ => False) w -> (∀ id,E.info id = none) -> All2 (RV RT E) args cargs.toList ->
  Calls P g cargs w fun e w' => e = .returned (.bool b) /\ Frm w (fun _ => False) w'
theorem loose_RV {E' : Env} {RT : RoTab} (hRT : RTok RT) (hM : ∀ ad v,E.M ad = some v -> E'.M ad = some v) {a : AV} {u : Value} (hl : looseA a = true) (h : RV RT E a u) : RV RT E' a u := by
 unfold looseA at hl
 split at hl
 ·have h' : R RT E _ u := h
  exact R.simple (RT:=RT) hM trivial h'
 ·have h' : R RT E _ u := h
  exact R.simple (RT:=RT) hM trivial h'
 ·have h' : R RT E _ u := h
  exact R.simple (RT:=RT) hM trivial h'
 ·have h' : R RT E _ u := h
  show R RT E' _ u
  cases h' with
  | ror u hT hc hx hr =>
   exact R.ror u hT hc (fun i j hi hj => let ⟨a,h1,h2,h3⟩ := hx i j hi hj; ⟨a,h1,h2,hM _ _ h3⟩) (fun i j hi hj => R.simple hM (hRT _ _ i j hT) (hr i j hi hj))
 ·have h' : R RT E _ u := h
  exact rro_R hM h'
 ·simp at hl
theorem loose_all {E' : Env} {RT : RoTab} (hRT : RTok RT) (hM : ∀ ad v,E.M ad = some v -> E'.M ad = some v) : ∀ {as : List AV} {us : List Value},looseAs as = true -> All2 (RV RT E) as us -> All2 (RV RT E') as us
 | [],_,_,.nil => .nil
 | a :: as,u :: us,hl,.cons h hs => by
  simp only [looseAs,Bool.and_eq_true] at hl
  exact .cons (loose_RV hRT hM hl.1 h) (loose_all hRT hM hl.2 hs)
def MethOK (P : Program) (m : Nat × List Nat × Nat) : Prop := ∀ (name : String) (v : Value) (args : Array Value) (w : World),nameNums name = m.2.1 ->
 (callMethod (.iface m.1 v) name args).run P w = (callFunc m.2.2 (#[v] ++ args)).run P w
theorem eqNs_eq : ∀ {xs ys : List Nat},eqNs xs ys = true -> xs = ys
 | [],[],_ => rfl
 | x :: xs,y :: ys,h => by
  simp only [eqNs] at h
  split at h
  ·rename_i hb
   rw [Nat.eq_of_beq_eq_true hb,eqNs_eq h]
  ·simp at h
 | [],_ :: _,h => by simp [eqNs] at h
 | _ :: _,[],h => by simp [eqNs] at h
theorem findM_mem : ∀ {l : List (Nat × List Nat × Nat)} {t : Nat} {n : List Nat} {f : Nat},findM l t n = some f -> (t,n,f) ∈ l
 | [],_,_,_,h => by simp [findM] at h
 | (t,n,f) :: r,t',n',f',h => by
  simp only [findM] at h
  split at h
  ·rename_i h1 h2
   simp only [Option.some.injEq] at h
   rw [<- Nat.eq_of_beq_eq_true h1,<- eqNs_eq h2,<- h]
   exact List.mem_cons_self ..
  ·exact List.mem_cons_of_mem _ (findM_mem h)
structure CfgOK (C : Cfg) : Prop where
 rt : RTok C.RT
 wide : C.P.follows .mixedOrders = true
 specs : ∀ q ∈ C.specs,CallOK C.P q.1 q.2 /\ enters C.P q.1 = true
 exts : ∀ g ∈ C.exts,ExtOK C.P g
 meths : ∀ m ∈ C.meths,MethOK C.P m
 laws : ∀ q ∈ C.laws,LawOK C.P C.RT q.1 q.2 /\ enters C.P q.1 = true
theorem atsA_all2 : ∀ {cap : List Atom} {us : List Value},All2 (R RT E) cap us -> All2 (RV RT E) (atsA cap) us
 | [],[],_ => .nil
 | _ :: _,_ :: _,.cons h hs => .cons (r:=RV RT E) h (atsA_all2 hs)
theorem appA_all2 : ∀ {args : List AV} {vs : List Value} {cap : List Atom} {us : List Value},All2 (RV RT E) args vs -> All2 (R RT E) cap us -> All2 (RV RT E) (appA args cap) (vs ++ us)
 | [],[],_,_,_,h => by simpa [appA] using atsA_all2 h
 | _ :: _,_ :: _,_,_,.cons h hs,h2 => by
  simp only [appA]
  exact .cons h (appA_all2 hs h2)
theorem all2_of {α β : Type} {r : α -> β -> Prop} {d : β} : ∀ {as : List α} {bs : List β},as.length = bs.length -> (∀ j x,as[j]? = some x -> r x (bs.getD j d)) -> All2 r as bs
 | [],[],_,_ => .nil
 | x :: as,z :: bs,hl,h => .cons (by simpa using h 0 x rfl) (all2_of (by simpa using hl) fun j x hj => by simpa using h (j + 1) x (by simpa using hj))
 | [],_ :: _,hl,_ => by simp at hl
 | _ :: _,[],hl,_ => by simp at hl
theorem args_all2 (hF : RF RT E F a) (l : Array Operand) : All2 (RV RT E) (argsA F l.toList) (l.map a.eval).toList := by
 obtain ⟨g1,g2⟩ := argsA_get hF l.toList
 refine all2_of (d:=undef) (by simp [g1]) fun j x hj => ?_
 simpa using g2 j x hj
theorem evCall_sound {C : Cfg} (hC : CfgOK C) {inl : Inl} (hinl : InlOK C inl) {nx : Nat} {f : AV} {uf : Value} {args : List AV} {cargs : Array Value} {k : KC Y} (hs : Sim C.RT E H fp w) (hf : Fresh E nx)
  (hfv : RV C.RT E f uf) (ha : All2 (RV C.RT E) args cargs.toList) (hk : evCall C inl H nx f args k = some y) :
  ∃ g vs,uf = .func (.func g) #[] vs /\ ((enters C.P g = true /\ Went C g (cargs ++ vs) w E H fp nx k y) \/
   ∃ u v,(callFunc g (cargs ++ vs)).run C.P w = .ok (.value u) w /\ k v H nx = some y /\ RV C.RT E v u) := by
 unfold evCall at hk
 split at hk
 ·rename_i g cap
  have hfv' : R C.RT E (.fn (.func g) cap) uf := hfv
  cases hfv' with
  | fn hn hr =>
   rename_i vs
   have hcap : All2 (R C.RT E) cap vs.toList := all2_of (d:=undef) (by simp [hn]) fun j x hj => by
    have := hr j x hj
    simpa [Array.getD_eq_getD_getElem?,List.getD_eq_getElem?_getD] using this
   have hall : All2 (RV C.RT E) (appA args cap) (cargs ++ vs).toList := by
    rw [Array.toList_append]
    exact appA_all2 ha hcap
   refine ⟨g,vs,rfl,?_⟩
   split at hk
   ·rename_i φ hfl
    obtain ⟨h1,h2⟩ := hC.laws _ (findL_mem hfl)
    rw [gate_some,obind_some] at hk
    obtain ⟨hl,b,hφ,hk⟩ := hk
    have hs0 : Sim C.RT ⟨fun _ => none,E.M⟩ noHeap (fun _ _ => False) w :=
     ⟨fun id b hb => by simp [noHeap] at hb,fun i j b c x hb => by simp [noHeap] at hb,fun ad v h => ⟨(hs.ro ad v h).1,(hs.ro ad v h).2.1,fun i b hb => by simp [noHeap] at hb⟩⟩
    refine Or.inl ⟨h2,Calls.mono (h1 _ b ⟨fun _ => none,E.M⟩ w _ hφ hs0 (fun _ => rfl) (loose_all (E:=E) (E' := ⟨fun _ => none,E.M⟩) hC.rt (fun _ _ h => h) hl hall)) ?_⟩
    rintro e w' ⟨rfl,hF⟩
    exact ⟨_,E,H,fp,nx,_,rfl,hk,R.bool _,hs.frm hF (fun _ _ h => h) (fun _ _ _ h => h),⟨.refl E,hF.mono fun _ h => h.elim,fun _ h _ => h,Nat.le_refl _,hf,.refl _ _ _ _⟩⟩
   split at hk
   ·rename_i s hfind
    obtain ⟨h1,h2⟩ := hC.specs _ (pick_mem hfind)
    exact Or.inl ⟨h2,callSpec_sound h1 hC.rt hs hf hall hk⟩
   ·split at hk
    ·rename_i hext
     right
     have hx := hC.exts g (mem_iff.1 hext)
     unfold evExt at hk
     split at hk
     ·rename_i x z c hargs
      rw [chk_some] at hk
      obtain ⟨⟨h0,h1,h2,h3⟩,hk⟩ := hk
      rw [hargs] at hall
      generalize hus : cargs ++ vs = us at hall
      obtain ⟨usl⟩ := us
      cases hall with
      | cons r1 q1 =>
       cases q1 with
       | cons r2 q2 =>
        cases q2 with
        | cons r3 q3 =>
         cases q3
         obtain rfl := R.int_inv r1
         obtain rfl := R.int_inv r2
         obtain rfl := R.int_inv r3
         refine ⟨_,_,hx x z c w h0 h1 h2 h3,hk,_,rfl,rfl,fun j p hj => ?_⟩
         match j with
         | 0 => simp at hj; subst hj; exact R.int _ _
         | 1 => simp at hj; subst hj; exact R.int _ _
         | j + 2 => simp at hj
     ·simp at hk
    ·exact Or.inl (hinl Y y g _ H nx k E fp w _ hk hs hf hall)
 ·simp at hk
theorem evC_sound {C : Cfg} (hC : CfgOK C) {inl : Inl} (hinl : InlOK C inl) {nx : Nat} {o : Oper} {k : KC Y} (hs : Sim C.RT E H fp w) (hf : Fresh E nx) (hF : RF C.RT E F a)
  (hk : evC C inl H nx F o.op k = some y) {Q : Exit -> Act -> World -> Prop} {next : Act -> World -> Prop}
  (hnext : ∀ v u H' nx' E' fp' w',k v H' nx' = some y -> RV C.RT E' v u -> Sim C.RT E' H' fp' w' -> Step E H fp w nx E' H' fp' w' nx' -> next (a.put o.dst u) w') :
  o.wp C.P a w next Q := by
 unfold evC at hk
 unfold Oper.wp execOp
 have lift : ∀ (s : Sem Value) (u : Value) (w' : World),s.run C.P w = .ok u w' -> (do pure (.value (<- s)) : Sem Next).run C.P w = .ok (.value u) w' := by
  intro s u w' h
  simp only [Sem.run_bind,h,Result.andThen_ok,Sem.run_pure]
 split at hk
 ·rename_i e ho
  simp only [ho]
  split at hk
  ·rename_i kd n hz
   obtain ⟨E',fp',u,w',h1,h2,h3,h4⟩ := alloc_ints_sound (P:=C.P) hs hf hz
   rw [lift _ _ _ h1]
   exact hnext _ _ _ _ _ _ _ hk h2 h3 h4
  ·split at hk
   ·rename_i z hz
    obtain ⟨E',fp',u,w',h1,h2,h3,h4⟩ := alloc_sound (P:=C.P) hs hf hz
    rw [lift _ _ _ h1]
    exact hnext _ _ _ _ _ _ _ hk h2 h3 h4
   ·simp at hk
 ·rename_i e x ho
  simp only [ho]
  split at hk
  ·rename_i kd n hz
   obtain ⟨E',fp',u,w',h1,h2,h3,h4⟩ := box_ints_sound (P:=C.P) (e:=e) hs hf (opd_sound hF x) hz
   rw [lift _ _ _ h1]
   exact hnext _ _ _ _ _ _ _ hk h2 h3 h4
  ·rw [gate_some] at hk
   obtain ⟨hg,hk⟩ := hk
   obtain ⟨E',fp',u,w',h1,h2,h3,h4⟩ := box_sound (P:=C.P) (e:=e) hs hf (opd_sound hF x) hg
   rw [lift _ _ _ h1]
   exact hnext _ _ _ _ _ _ _ hk h2 h3 h4
 ·rename_i t n parts ho
  simp only [ho]
  have hp := parts_sound hF parts.toList
  have hp' : All2 (fun (p : Nat × AV) (q : Nat × Value) => p.1 = q.1 /\ RV C.RT E p.2 q.2) (partsA F parts.toList) (parts.map fun (i,x) => (i,a.eval x)).toList := by
   simpa using hp
  obtain ⟨v,H',nx',E',fp',u,w',h1,h2,h3,h4,h5⟩ := buildSlice_sound (P:=C.P) hs hf hp' hk
  rw [lift _ _ _ h2]
  exact hnext _ _ _ _ _ _ _ h1 h3 h4 h5
 ·rename_i t l c ho
  simp only [ho]
  obtain ⟨v,H',nx',E',fp',u,w',h1,h2,h3,h4,h5⟩ := make_sound (P:=C.P) hs hf (opd_sound hF l) (opd_sound hF c) hk
  rw [lift _ _ _ h2]
  exact hnext _ _ _ _ _ _ _ h1 h3 h4 h5
 ·rename_i t ad x ho
  simp only [ho]
  split at hk
  ·rename_i at' hat
   have hx : RV C.RT E (evOpd F ad) (a.eval ad) := opd_sound hF ad
   rw [hat] at hx
   obtain ⟨H',w',h1,h2,h3,h4⟩ := store_sound (P:=C.P) hs hf hx (opd_sound hF x) hk
   have : (do Instr.storeAt t (a.eval ad) (a.eval x); pure .skip : Sem Next).run C.P w = .ok .skip w' := by
    simp only [Sem.run_bind,h2,Result.andThen_ok,Sem.run_pure]
   rw [this]
   exact hnext _ undef _ _ _ _ _ h1 (R.unk _) h3 h4
  ·simp at hk
 ·rename_i c ho
  simp only [ho]
  have hres : ∀ b,c.callee = .builtin b -> (do let d <- resolve a.eval c o.type; invoke d.target d.args : Sem Next) =
    builtin b c.argTypes o.type (c.args.map fun | .const _ => true | _ => false) (c.args.map a.eval) := by
   intro b hb
   simp only [resolve,hb]
   rfl
  have hargs := args_all2 hF c.args
  split at hk
  ·rename_i f hc
   obtain ⟨g,vs,h1,⟨h2,h3⟩ | ⟨u,v,h2,h3,h4⟩⟩ := evCall_sound hC hinl hs hf (opd_sound hF f) hargs hk
   ·have : (do let d <- resolve a.eval c o.type; invoke d.target d.args : Sem Next).run C.P w = .ok (.enter g (c.args.map a.eval ++ vs)) w := by
     simp only [resolve,hc,Deferred.ofValue,h1,Sem.run_bind,Sem.run_pure,Result.andThen_ok,invoke]
     simpa using run_enter h2
    rw [this]
    refine Calls.mono h3 ?_
    rintro e w' ⟨u,E',H',fp',nx',v,rfl,g1,g2,g3,g4⟩
    exact hnext _ _ _ _ _ _ _ g1 g2 g3 g4
   ·have : (do let d <- resolve a.eval c o.type; invoke d.target d.args : Sem Next).run C.P w = .ok (.value u) w := by
     simp only [resolve,hc,Deferred.ofValue,h1,Sem.run_bind,Sem.run_pure,Result.andThen_ok,invoke]
     simpa using h2
    rw [this]
    exact hnext _ _ _ _ _ _ _ h3 h4 hs (Step.refl hf)
  ·rename_i x name hc
   unfold evInv at hk
   split at hk
   ·rename_i t xa hx
    split at hk
    ·rename_i f hfm
     have hxv : RV C.RT E (evOpd F x) (a.eval x) := opd_sound hF x
     rw [hx] at hxv
     have hxr : R C.RT E (.iface t false [xa]) (a.eval x) := hxv
     obtain ⟨v,hv,hr⟩ := R.iface_inv hxr
     have hall : All2 (RV C.RT E) (.at xa :: argsA F c.args.toList) (#[v] ++ c.args.map a.eval).toList := by
      rw [Array.toList_append]
      exact .cons (r:=RV C.RT E) hr hargs
     have hme := hC.meths _ (findM_mem hfm) name v (c.args.map a.eval) w rfl
     have hfv : RV C.RT E (.at (.fn (.func f) [])) (.func (.func f) #[] #[]) := R.fn rfl (fun j z hj => by simp at hj)
     have hinv : (do let d <- resolve a.eval c o.type; invoke d.target d.args : Sem Next).run C.P w = (callFunc f (#[v] ++ c.args.map a.eval)).run C.P w := by
      rw [<- hme]
      have g0 : (#[Value.iface t v] ++ c.args.map a.eval)[0]? = some (.iface t v) := by
       rw [Array.getElem?_append_left (by simp)]
       rfl
      have g1 : (#[Value.iface t v] ++ c.args.map a.eval).extract 1 (#[Value.iface t v] ++ c.args.map a.eval).size = c.args.map a.eval := by
       rw [Array.extract_append]
       simp
      simp only [resolve,hc,Sem.run_bind,Sem.run_pure,Result.andThen_ok,invoke,hv,g0,g1]
     obtain ⟨g,vs,h1,⟨h2,h3⟩ | ⟨u,v',h2,h3,h4⟩⟩ := evCall_sound hC hinl hs hf hfv hall hk
     ·simp only [Value.func.injEq,Fn.func.injEq,true_and] at h1
      obtain ⟨rfl,rfl⟩ := h1
      have : (do let d <- resolve a.eval c o.type; invoke d.target d.args : Sem Next).run C.P w = .ok (.enter f (#[v] ++ c.args.map a.eval)) w := by
       rw [hinv]
       exact run_enter h2
      rw [this]
      simp only [Array.append_empty] at h3
      refine Calls.mono h3 ?_
      rintro e w' ⟨u,E',H',fp',nx',v',rfl,g1,g2,g3,g4⟩
      exact hnext _ _ _ _ _ _ _ g1 g2 g3 g4
     ·simp only [Value.func.injEq,Fn.func.injEq,true_and] at h1
      obtain ⟨rfl,rfl⟩ := h1
      simp only [Array.append_empty] at h2
      rw [hinv,h2]
      exact hnext _ _ _ _ _ _ _ h3 h4 hs (Step.refl hf)
    ·simp at hk
   ·simp at hk
  ·rename_i hc
   rw [hres _ hc]
   split at hk
   ·rename_i s x t t2 hal htl
    have hts : c.argTypes = #[t,t2] := by apply Array.ext'; simpa using htl
    rw [hal] at hargs
    generalize hus : (c.args.map a.eval) = us at hargs
    obtain ⟨usl⟩ := us
    cases hargs with
    | cons hr1 h2 =>
     cases h2 with
     | cons hr2 h3 =>
      cases h3
      split at hk
      ·rename_i e he
       obtain ⟨v,H',nx',E',fp',u,w',h1,h2,h3,h4,h5⟩ := appendR_sound (P:=C.P) (o:=o.type) hs hf hr1 hr2 he hk
       have this : ∀ cs,(builtin .append c.argTypes o.type cs (List.toArray [_,_])).run C.P w = .ok (.value u) w' := fun cs => by
        simp only [builtin,hts]
        exact lift _ _ _ h2
       rw [this]
       exact hnext _ _ _ _ _ _ _ h1 h3 h4 h5
      ·obtain ⟨v,H',nx',E',fp',u,w',h1,h2,h3,h4,h5⟩ := append_sound (P:=C.P) (o:=o.type) hs hf hr1 hr2 hk
       have this : ∀ cs,(builtin .append c.argTypes o.type cs (List.toArray [_,_])).run C.P w = .ok (.value u) w' := fun cs => by
        simp only [builtin,hts]
        exact lift _ _ _ h2
       rw [this]
       exact hnext _ _ _ _ _ _ _ h1 h3 h4 h5
   ·simp at hk
  ·rename_i hc
   rw [hres _ hc]
   split at hk
   ·rename_i d s t ts hal htl
    rw [hal] at hargs
    generalize hus : (c.args.map a.eval) = us at hargs
    obtain ⟨usl⟩ := us
    cases hargs with
    | cons hr1 h2 =>
     cases h2 with
     | cons hr2 h3 =>
      cases h3
      obtain ⟨v,H',u,w',h1,h2,h3,h4,h5⟩ := copy_sound (P:=C.P) (o:=o.type) hs hf hr1 hr2 hk c.argTypes (by rw [<- Array.getElem?_toList,htl]; rfl)
      have this : ∀ cs,(builtin .copy c.argTypes o.type cs (List.toArray [_,_])).run C.P w = .ok (.value u) w' := fun cs => by
       simp only [builtin]
       exact lift _ _ _ h2
      rw [this]
      exact hnext _ _ _ _ _ _ _ h1 h3 h4 h5
   ·simp at hk
  ·rename_i hc
   rw [hres _ hc]
   split at hk
   ·rename_i d t ts hal htl
    rw [hal] at hargs
    generalize hus : (c.args.map a.eval) = us at hargs
    obtain ⟨usl⟩ := us
    cases hargs with
    | cons hr1 h2 =>
     cases h2
     obtain ⟨H',u,w',h1,h2,h4,h5⟩ := clear_sound (P:=C.P) (o:=o.type) hs hf hr1 hk c.argTypes (by rw [<- Array.getElem?_toList,htl]; rfl)
     have this : ∀ cs,(builtin .clear c.argTypes o.type cs (List.toArray [_])).run C.P w = .ok (.value u) w' := fun cs => by
      simp only [builtin]
      exact lift _ _ _ h2
     rw [this]
     exact hnext _ _ _ _ _ _ _ h1 (RV.unk _) h4 h5
   ·simp at hk
  ·simp at hk
 ·simp at hk
end Go.Eng
/-
 The engine, part ten: a region in the text's order.
 Conditions: none; nothing is claimed of the program here.
-/
namespace Go.Eng
variable {RT : RoTab} {E : Env} {F : Fr} {a : Act} {H : Heap} {fp : Fp} {w : World} {P : Program} {Y : Type} {y : Y}
structure St (RT : RoTab) (E : Env) (H : Heap) (fp : Fp) (w : World) (F : Fr) (a : Act) (nx n : Nat) : Prop where
 sim : Sim RT E H fp w
 fresh : Fresh E nx
 rf : RF RT E F a
 size : a.tmps.size = n
 df : a.defers = []
structure Trip (C : Cfg) (E : Env) (H : Heap) (fp : Fp) (w : World) (nx : Nat) (E' : Env) (H' : Heap) (fp' : Fp) (w' : World) (nx' : Nat) : Prop where
 keep : ∀ id I,id < C.hi -> id ∉ C.mv -> E.info id = some I -> E'.info id = some I
 M : ∀ a v,E.M a = some v -> E'.M a = some v
 frm : Frm w (OwnAll H fp) w'
 own : ∀ x,OwnAll H' fp' x -> x.1 < w.heap.size -> OwnAll H fp x
 nx : nx <= nx'
 fresh : Fresh E' nx'
 ext : MExt E H fp w E'
variable {C : Cfg}
theorem Step.trip {nx : Nat} {E' : Env} {H' : Heap} {fp' : Fp} {w' : World} {nx' : Nat} (h : Step E H fp w nx E' H' fp' w' nx') : Trip C E H fp w nx E' H' fp' w' nx' :=
 ⟨fun id I _ _ hI => h.le.info id I hI,h.le.M,h.frm,h.own,h.nx,h.fresh,h.ext⟩
theorem Trip.refl {nx : Nat} (hf : Fresh E nx) : Trip C E H fp w nx E H fp w nx := (Step.refl hf).trip
theorem Trip.trans {E' E'' : Env} {H' H'' : Heap} {fp' fp'' : Fp} {w' w'' : World} {nx nx' nx'' : Nat}
  (h : Trip C E H fp w nx E' H' fp' w' nx') (k : Trip C E' H' fp' w' nx' E'' H'' fp'' w'' nx'') : Trip C E H fp w nx E'' H'' fp'' w'' nx'' where
 keep := fun id I h1 h2 hI => k.keep id I h1 h2 (h.keep id I h1 h2 hI)
 M := fun a v ha => k.M a v (h.M a v ha)
 frm := h.frm.trans k.frm h.own
 own := fun x hx hlt => h.own x (k.own x hx (Nat.lt_of_lt_of_le hlt h.frm.size)) hlt
 nx := Nat.le_trans h.nx k.nx
 fresh := k.fresh
 ext := h.ext.trans k.ext h.frm.size h.own
def Same (g : Nat -> Bool) (a a' : Act) : Prop := ∀ j,g j = false -> a'.tmps.getD j undef = a.tmps.getD j undef
theorem Same.refl (g : Nat -> Bool) (a : Act) : Same g a a := fun _ _ => rfl
theorem Same.trans {g : Nat -> Bool} {a a' a'' : Act} (h : Same g a a') (k : Same g a' a'') : Same g a a'' := fun j hj => (k j hj).trans (h j hj)
theorem Same.mono {g g' : Nat -> Bool} {a a' : Act} (h : Same g a a') (hg : ∀ j,g j = true -> g' j = true) : Same g' a a' := fun j hj => h j (by
 cases hb : g j with
 | false => rfl
 | true => rw [hg j hb] at hj; simp at hj)
theorem Same.put (a : Act) (d : Option Tmp) (v : Value) : Same (fun j => eqO d (some j)) a (a.put d v) := by
 intro j hj
 cases d with
 | none => rfl
 | some d =>
  simp only [eqO] at hj
  have hne : j ≠ d := fun he => by subst he; simp at hj
  exact getD_set_other hne
theorem named_eq (K : FCfg) (d : Option Tmp) (v : AV) (k : AV -> Option Y) : named K d v k = k v := by
 unfold named
 split
 ·rfl
 ·split
  ·rfl
  ·split <;> rfl
theorem putF_id (F : Fr) (d : Nat) {v : AV} (h : F d = v) : putF F d v = F := by
 funext j
 rw [putF_eq]
 split
 ·rename_i hj; rw [hj,h]
 ·rfl
theorem getD_bool {ts : Array Value} {d : Nat} {b : Bool} (h : ts.getD d undef = .bool b) : ts[d]? = some (.bool b) := by
 cases ht : ts[d]? with
 | none => simp [Array.getD_eq_getD_getElem?,ht,undef] at h
 | some v => simp [Array.getD_eq_getD_getElem?,ht] at h; rw [h]
theorem R.und_inv {v : Value} (h : R RT E .und v) : v = undef := by cases h; rfl
theorem yielded_und {ops : Array Oper} {ts : Array Value} {g d : Nat} (hd : dstAt ops.toList g = some d) (h : ts.getD d undef = undef) : yielded ops ts g = none := by
 unfold dstAt at hd
 split at hd
 ·rename_i og hog
  rw [nth_eq] at hog
  have : ops[g]? = some og := by simpa using hog
  simp only [yielded,this,Option.bind_some,hd]
  cases ht : ts[d]? with
  | none => rfl
  | some v =>
   simp [Array.getD_eq_getD_getElem?,ht] at h
   subst h
   rfl
 ·simp at hd
theorem evGuard_sound {ops : Array Oper} {o : Oper} {yes no : Fr -> Option Y} (hF : ∀ g want d,o.guard = some (g,want) -> dstAt ops.toList g = some d -> RV RT E (F d) (a.tmps.getD d undef))
  (hk : evGuard ops.toList o F yes no = some y) :
  (Region.wanted o (yielded ops a.tmps) = true /\ yes F = some y) \/ (Region.wanted o (yielded ops a.tmps) = false /\ no F = some y) := by
 unfold evGuard at hk
 split at hk
 ·rename_i hg
  exact Or.inl ⟨by simp [Region.wanted,hg],hk⟩
 ·rename_i g want hg
  split at hk
  ·simp at hk
  ·rename_i d hd
   have hv := hF g want d hg hd
   split at hk
   ·rename_i b hb
    rw [hb] at hv
    have hv' : R RT E (.bool b) (a.tmps.getD d undef) := hv
    have hv2 := getD_bool (R.bool_inv hv')
    have hy : yielded ops a.tmps g = some b := by
     unfold dstAt at hd
     split at hd
     ·rename_i og hog
      rw [nth_eq] at hog
      have : ops[g]? = some og := by simpa using hog
      simp [yielded,this,hd,hv2]
     ·simp at hd
    cases b with
    | true =>
     simp only [br] at hk
     rw [putF_id F d hb] at hk
     cases want with
     | true => exact Or.inl ⟨by simp [Region.wanted,hg,hy],hk⟩
     | false => exact Or.inr ⟨by simp [Region.wanted,hg,hy],hk⟩
    | false =>
     simp only [br] at hk
     rw [putF_id F d hb] at hk
     cases want with
     | true => exact Or.inr ⟨by simp [Region.wanted,hg,hy],hk⟩
     | false => exact Or.inl ⟨by simp [Region.wanted,hg,hy],hk⟩
   ·rename_i hb
    rw [hb] at hv
    have hv' : R RT E .und (a.tmps.getD d undef) := hv
    exact Or.inr ⟨by simp [Region.wanted,hg,yielded_und hd (R.und_inv hv')],hk⟩
   ·simp at hk
theorem evOne_sound (hC : CfgOK C) {inl : Inl} (hinl : InlOK C inl) {K : FCfg} {nx : Nat} {o : Oper} {k : AV -> KS Y} (hs : Sim C.RT E H fp w) (hf : Fresh E nx) (hF : RF C.RT E F a)
  (hk : evOne C K inl o H F H nx k = some y) {Q : Exit -> Act -> World -> Prop} {next : Act -> World -> Prop}
  (hnext : ∀ v u H' nx' E' fp' w',k v (putO F o.dst v) H' nx' = some y -> RV C.RT E' v u -> Sim C.RT E' H' fp' w' -> Step E H fp w nx E' H' fp' w' nx' -> next (a.put o.dst u) w') :
  o.wp C.P a w next Q := by
 unfold evOne at hk
 split at hk
 ·simp only [named_eq] at hk
  exact evC_sound hC hinl hs hf hF hk hnext
 ·split at hk
  ·obtain ⟨v,E',u,w',h1,h2,h3,h4,h5⟩ := lit_sound hs hf hF hk
   unfold Oper.wp
   rw [h2]
   exact hnext _ _ _ _ _ _ _ h1 h3 h4 h5
  ·simp only [named_eq] at hk
   obtain ⟨v,u,h1,h2,h3⟩ := evR_sound hF hs hk
   unfold Oper.wp
   rw [h2]
   exact hnext _ _ _ _ _ _ _ h1 h3 hs (Step.refl hf)
theorem both_some {a b : Option Y} (h : both a b = some y) : a = some y /\ b = some y := by
 unfold both at h
 split at h
 ·split at h
  ·rename_i he; simp at h; subst h; subst he; exact ⟨rfl,rfl⟩
  ·simp at h
 ·simp at h
theorem nilN_some {n : Nat} {a b : Option Y} (h : nilN n a b = some y) : b = some y /\ (n = 0 -> a = some y) := by
 cases n with
 | zero => exact ⟨(both_some h).2,fun _ => (both_some h).1⟩
 | succ n => exact ⟨h,fun h0 => by simp at h0⟩
theorem nilN_of {n : Nat} {a b : Option Y} (ha : n = 0 -> a = some y) (hb : b = some y) : nilN n a b = some y := by
 cases n with
 | zero => simp [nilN,both,ha rfl,hb]
 | succ n => exact hb
theorem equalIn_sl (d : Nat) {t e : TypeId} {n c : Nat} {b : Option Addr} (h : P.underlying t = some (.slice e)) : (Op.equalIn (d + 1) t (.slice b n c) (.slice none 0 0)).run P w = .ok b.isNone w := by
 cases b <;> simp [Op.equalIn,run_und h]
theorem mayNil_base {x : Atom} {base : Option Addr} {n cap : Nat} (hs : Sim RT E H fp w) (hx : R RT E x (.slice base n cap)) (h : mayNil x = true) : base = none -> n = 0 := by
 intro hb0
 subst hb0
 cases hx with
 | full h hb hn hc hg =>
  rcases hb with hb | hb
  ·simp at hb
  ·exact hb.1
 | sub h hw hl hc hb =>
  rcases hb with hb | hb
  ·simp at hb
  ·exact hb
 | roi hc hx =>
  rename_i k xs
  cases xs with
  | nil => rfl
  | cons y ys => obtain ⟨a,ha,_⟩ := hx 0 (by simp); simp at ha
 | _ => simp [mayNil] at h
theorem R.nils_inv {v : Value} (h : R RT E .nils v) : v = .slice none 0 0 := by cases h; rfl
theorem nilT_sound {o : Oper} {n : Nat} {neg : Bool} {k : AV -> Option Y} (hF : RF RT E F a) (hs : Sim RT E H fp w) (h : nilT P RT H F o.op = some (n,neg))
  (hk : nilN n (k (.at (.bool (!neg)))) (k (.at (.bool neg))) = some y) : ∃ v u,k v = some y /\ (execOp a.eval o).run P w = .ok (.value u) w /\ RV RT E v u := by
 obtain ⟨hk0,hk1⟩ := nilN_some hk
 unfold nilT at h
 unfold execOp
 split at h
 ·rename_i t x z ge ho
  simp only [ho]
  split at h
  ·rename_i e x' hu hx hz
   split at h
   ·rename_i n' hm hl
    simp only [Option.some.injEq,Prod.mk.injEq] at h
    obtain ⟨rfl,rfl⟩ := h
    have hxv := opd_sound hF x
    have hzv := opd_sound hF z
    rw [hx] at hxv
    rw [hz] at hzv
    have hxv' : R RT E x' (a.eval x) := hxv
    have hzv' : R RT E .nils (a.eval z) := hzv
    obtain ⟨base,cap,h1,_⟩ := lenA_sound hs hxv' hl
    have h2 : a.eval z = .slice none 0 0 := R.nils_inv hzv'
    rw [h1] at hxv' ⊢
    rw [h2]
    have hb := mayNil_base hs hxv' hm
    have hg : (eqGuard .eql t x z (.slice base n' cap) (.slice none 0 0)).run P w = .ok () w := eqGuard_run (by simp)
    refine ⟨.at (.bool base.isNone),.bool base.isNone,?_,?_,R.bool _⟩
    ·cases base with
     | none => exact hk1 (hb rfl)
     | some ad => exact hk0
    ·simp only [Sem.run_bind,hg,Result.andThen_ok,eql_of (equalIn_sl 9999 hu) rfl,Sem.run_pure]
   ·simp at h
  ·simp at h
 ·rename_i t x z ge ho
  simp only [ho]
  split at h
  ·rename_i e x' hu hx hz
   split at h
   ·rename_i n' hm hl
    simp only [Option.some.injEq,Prod.mk.injEq] at h
    obtain ⟨rfl,rfl⟩ := h
    have hxv := opd_sound hF x
    have hzv := opd_sound hF z
    rw [hx] at hxv
    rw [hz] at hzv
    have hxv' : R RT E x' (a.eval x) := hxv
    have hzv' : R RT E .nils (a.eval z) := hzv
    obtain ⟨base,cap,h1,_⟩ := lenA_sound hs hxv' hl
    have h2 : a.eval z = .slice none 0 0 := R.nils_inv hzv'
    rw [h1] at hxv' ⊢
    rw [h2]
    have hb := mayNil_base hs hxv' hm
    have hg : (eqGuard .neq t x z (.slice base n' cap) (.slice none 0 0)).run P w = .ok () w := eqGuard_run (by simp)
    refine ⟨.at (.bool !base.isNone),.bool !base.isNone,?_,?_,R.bool _⟩
    ·cases base with
     | none => exact hk1 (hb rfl)
     | some ad => exact hk0
    ·simp only [Sem.run_bind,hg,Result.andThen_ok,neq_of (equalIn_sl 9999 hu) rfl,Sem.run_pure]
   ·simp at h
  ·simp at h
 ·simp at h
open Classical in
noncomputable def frzE (E : Env) (fp : Fp) (w : World) (id : Nat) : Env :=
 ⟨E.info,fun ad => match E.M ad with
  | some v => some v
  | none => if ad.spot = none /\ fp id (ad.block,ad.off) then w.cell? ad else none⟩
theorem frz_le (id : Nat) : E.Le (frzE E fp w id) := ⟨fun _ _ h => h,fun ad v h => by simp only [frzE,h]⟩
theorem frz_M {id : Nat} {ad : Addr} {v : Value} (h : (frzE E fp w id).M ad = some v) : E.M ad = some v \/ (ad.spot = none /\ fp id (ad.block,ad.off) /\ w.cell? ad = some v) := by
 simp only [frzE] at h
 split at h
 ·rename_i u hu; simp only [Option.some.injEq] at h; subst h; exact Or.inl hu
 ·split at h
  ·rename_i hc; exact Or.inr ⟨hc.1,hc.2,h⟩
  ·simp at h
theorem frz_kill {id : Nat} {b : Blk} {nx : Nat} (hs : Sim RT E H fp w) (hf : Fresh E nx) (hb : H id = some b) :
  Sim RT (frzE E fp w id) (putH H id none) fp w /\ Step E H fp w nx (frzE E fp w id) (putH H id none) fp w nx := by
 have hsub : ∀ i b,putH H id none i = some b -> H i = some b /\ i ≠ id := by
  intro i b h
  rw [putH_eq] at h
  split at h
  ·simp at h
  ·rename_i hne; exact ⟨h,hne⟩
 refine ⟨⟨fun i b h => ?_,fun i j b c x h1 h2 hij hx => hs.disj i j b c x (hsub i b h1).1 (hsub j c h2).1 hij hx,fun ad v h => ?_⟩,⟨frz_le id,.refl w _,fun x ⟨i,b,h1,h2⟩ _ => ⟨i,b,(hsub i b h1).1,h2⟩,Nat.le_refl _,fun i hi => hf i hi,fun ad v h => ?_⟩⟩
 ·obtain ⟨I,hI,ok⟩ := hs.blk i b (hsub i b h).1
  exact ⟨I,hI,ok.mono (frz_le id)⟩
 ·rcases frz_M h with h | ⟨h1,h2,h3⟩
  ·obtain ⟨g1,g2,g3⟩ := hs.ro ad v h
   exact ⟨g1,g2,fun i b hb' => g3 i b (hsub i b hb').1⟩
  ·exact ⟨h1,h3,fun i b hb' => hs.disj id i _ b _ hb (hsub i b hb').1 (Ne.symm (hsub i b hb').2) h2⟩
 ·rcases frz_M h with h | ⟨h1,h2,h3⟩
  ·exact Or.inl h
  ·exact Or.inr (Or.inr ⟨id,_,hb,h2⟩)
theorem frzE_own {id : Nat} {b : Blk} {ad : Addr} {v : Value} (hs : Sim RT E H fp w) (hb : H id = some b) (hsp : ad.spot = none) (hown : fp id (ad.block,ad.off)) (hc : w.cell? ad = some v) : (frzE E fp w id).M ad = some v := by
 simp only [frzE]
 split
 ·rename_i u' hu'
  obtain ⟨_,_,h3⟩ := hs.ro _ _ hu'
  exact absurd hown (h3 id _ hb)
 ·rw [if_pos ⟨hsp,hown⟩]
  exact hc
theorem frz_ints {id : Nat} {nn g : Bool} {kd : IntKind} {xs : List Int} {u : Value} (hs : Sim RT E H fp w) (hb : H id = some (.ints g kd xs)) (hv : R RT E (.full id nn) u) : R RT (frzE E fp w id) (.roi kd xs) u := by
 obtain ⟨I,hI,ok⟩ := hs.blk _ _ hb
 obtain ⟨k1,k2,k3,k4⟩ := ok.kind
 have hcap := ok.cap
 cases hv with
 | full h hbase hn hc hg =>
  rename_i cap J base
  rw [hI] at h
  obtain rfl := Option.some.inj h
  rw [k2]
  refine R.roi (by omega) fun i hi => ?_
  rcases hbase with hbase | ⟨h0,_⟩
  ·exact ⟨_,hbase,rfl,frzE_own hs hb rfl ((ok.own _).2 ⟨rfl,by simp,by simp only [k1]; split <;> omega⟩) (k4 i hi)⟩
  ·omega
theorem frz_recs {id : Nat} {nn g : Bool} {T : RecT} {xss : List (List Int)} {u : Value} (hs : Sim RT E H fp w) (hb : H id = some (.recs g T xss)) (hv : R RT E (.full id nn) u) : R RT (frzE E fp w id) (.rro T xss) u := by
 obtain ⟨I,hI,ok⟩ := hs.blk _ _ hb
 obtain ⟨k1,k2,k3,k4⟩ := ok.kind
 have hcap := ok.cap
 cases hv with
 | full h hbase hn hc hg =>
  rename_i cap J base
  rw [hI] at h
  obtain rfl := Option.some.inj h
  rw [k2]
  refine R.rro (fun i j => (w.cell? ⟨I.cb,I.coff + (i * I.w + j),none⟩).getD undef) (by omega) (fun i j hi hj => ?_) (fun i j x hi hj => ?_)
  ·have hj' : j < (recA T (xss.getD i [])).length := by rw [recA_len]; exact hj
   obtain ⟨v,hv,_⟩ := k4 i j _ hi (List.getElem?_eq_getElem hj')
   rcases hbase with hbase | ⟨h0,_⟩
   ·refine ⟨_,hbase,rfl,?_⟩
    rw [<- k1,hv]
    refine frzE_own hs hb rfl ((ok.own _).2 ⟨rfl,by simp,?_⟩) hv
    have := cell_in (n:=xss.length) hi hj
    rw [k1]
    simp only
    split
    ·have : I.n * recW T <= I.cap * recW T := Nat.mul_le_mul_right _ hcap
     rw [k2] at this
     omega
    ·rw [k2]; omega
   ·omega
  ·obtain ⟨v,hv,hr⟩ := k4 i j x hi hj
   rw [hv]
   exact hr.mono (frz_le id)
theorem Step.none' {nx : Nat} (hf : Fresh E nx) : Step E H fp w nx E H fp w nx := .refl hf
theorem frz1_sound {x : Atom} {u : Value} {nx : Nat} {k : Atom -> Heap -> Option Y} (hs : Sim RT E H fp w) (hf : Fresh E nx) (hv : R RT E x u) (hk : frz1 x H k = some y) :
  ∃ x' H' E',k x' H' = some y /\ R RT E' x' u /\ Sim RT E' H' fp w /\ Step E H fp w nx E' H' fp w nx := by
 unfold frz1 at hk
 split at hk
 ·rename_i id nn
  split at hk
  ·rename_i g kd xs hb
   obtain ⟨h1,h2⟩ := frz_kill (nx:=nx) hs hf hb
   exact ⟨_,_,_,hk,frz_ints hs hb hv,h1,h2⟩
  ·rename_i g T xss hb
   split at hk
   ·obtain ⟨h1,h2⟩ := frz_kill (nx:=nx) hs hf hb
    exact ⟨_,_,_,hk,frz_recs hs hb hv,h1,h2⟩
   ·exact ⟨_,_,_,hk,hv,hs,.none' hf⟩
  ·exact ⟨_,_,_,hk,hv,hs,.none' hf⟩
 ·exact ⟨_,_,_,hk,hv,hs,.none' hf⟩
theorem frzL_sound {nx : Nat} : ∀ {cs : List Atom} {vs : List Value} {E : Env} {H : Heap} {k : List Atom -> Heap -> Option Y},Sim RT E H fp w -> Fresh E nx -> All2 (R RT E) cs vs -> frzL cs H k = some y ->
  ∃ cs' H' E',k cs' H' = some y /\ All2 (R RT E') cs' vs /\ Sim RT E' H' fp w /\ Step E H fp w nx E' H' fp w nx
 | [],[],E,H,k,hs,hf,_,hk => ⟨_,_,_,hk,.nil,hs,.none' hf⟩
 | x :: cs,v :: vs,E,H,k,hs,hf,.cons hv hr,hk => by
  simp only [frzL] at hk
  obtain ⟨x',H1,E1,hk,g1,g2,g3⟩ := frz1_sound hs hf hv hk
  obtain ⟨cs',H2,E2,hk,q1,q2,q3⟩ := frzL_sound g2 g3.fresh (All2.mono (fun _ _ h => h.mono g3.le) hr) hk
  exact ⟨_,_,_,hk,.cons (g1.mono q3.le) q1,q2,g3.trans q3⟩
theorem RCs_all2 {cs : List Atom} {vs : Array Value} : RCs RT E cs vs ↔ All2 (R RT E) cs vs.toList := by
 constructor
 ·intro h
  refine All2.of_get (by simpa using h.1.symm) fun j x v hx hv => ?_
  have := h.2 j x hx
  rw [Array.getD_eq_getD_getElem?,<- Array.getElem?_toList,hv] at this
  exact this
 ·intro h
  refine ⟨by simpa using h.length.symm,fun j x hx => ?_⟩
  obtain ⟨z,hz,hr⟩ := h.get hx
  rw [Array.getD_eq_getD_getElem?,<- Array.getElem?_toList,hz]
  exact hr
theorem frzP_sound {nx : Nat} {g : Bool} {cs : List Atom} {v : Value} {k : List Atom -> Heap -> Option Y} (hs : Sim RT E H fp w) (hf : Fresh E nx) (hv : RP RT E (g,cs) v) (hk : frzL cs H k = some y) :
  ∃ cs' H' E',k cs' H' = some y /\ RP RT E' (g,cs') v /\ Sim RT E' H' fp w /\ Step E H fp w nx E' H' fp w nx := by
 cases g with
 | true =>
  obtain ⟨vs,rfl,hc⟩ := hv
  obtain ⟨cs',H',E',hk,g1,g2,g3⟩ := frzL_sound hs hf (RCs_all2.1 hc) hk
  exact ⟨_,_,_,hk,⟨vs,rfl,RCs_all2.2 g1⟩,g2,g3⟩
 | false =>
  match cs,hv with
  | [a],hv =>
   simp only [frzL] at hk
   obtain ⟨x',H1,E1,hk,g1,g2,g3⟩ := frz1_sound hs hf (x:=a) hv hk
   exact ⟨_,_,_,hk,g1,g2,g3⟩
theorem frzT_sound {nx : Nat} : ∀ {ps : List (Bool × List Atom)} {vs : List Value} {E : Env} {H : Heap} {k : List (Bool × List Atom) -> Heap -> Option Y},Sim RT E H fp w -> Fresh E nx -> All2 (RP RT E) ps vs -> frzT ps H k = some y ->
  ∃ ps' H' E',k ps' H' = some y /\ All2 (RP RT E') ps' vs /\ Sim RT E' H' fp w /\ Step E H fp w nx E' H' fp w nx
 | [],[],E,H,k,hs,hf,_,hk => ⟨_,_,_,hk,.nil,hs,.none' hf⟩
 | (g,cs) :: ps,v :: vs,E,H,k,hs,hf,.cons hv hr,hk => by
  simp only [frzT] at hk
  obtain ⟨x',H1,E1,hk,g1,g2,g3⟩ := frzP_sound hs hf hv hk
  obtain ⟨cs',H2,E2,hk,q1,q2,q3⟩ := frzT_sound g2 g3.fresh (All2.mono (fun _ _ h => h.mono g3.le) hr) hk
  exact ⟨_,_,_,hk,.cons (g1.mono q3.le) q1,q2,g3.trans q3⟩
theorem frz_sound {v : AV} {u : Value} {nx : Nat} {k : AV -> Heap -> Option Y} (hs : Sim RT E H fp w) (hf : Fresh E nx) (hv : RV RT E v u) (hk : frzA v H k = some y) :
  ∃ v' H' E',k v' H' = some y /\ RV RT E' v' u /\ Sim RT E' H' fp w /\ Step E H fp w nx E' H' fp w nx := by
 unfold frzA at hk
 split at hk
 ·rename_i id nn
  split at hk
  ·rename_i g kd xs hb
   obtain ⟨h1,h2⟩ := frz_kill (nx:=nx) hs hf hb
   exact ⟨_,_,_,hk,frz_ints hs hb hv,h1,h2⟩
  ·simp at hk
 ·rename_i cs
  obtain ⟨vs,rfl,hc⟩ := hv
  obtain ⟨cs',H',E',hk,g1,g2,g3⟩ := frzL_sound hs hf (RCs_all2.1 hc) hk
  exact ⟨_,_,_,hk,⟨vs,rfl,RCs_all2.2 g1⟩,g2,g3⟩
 ·rename_i ps
  obtain ⟨vs,rfl,hn,hc⟩ := hv
  have ha : All2 (RP RT E) ps vs.toList := All2.of_get (by simpa using hn.symm) fun j x v hx hv => by
   have := hc j x hx
   rw [Array.getD_eq_getD_getElem?,<- Array.getElem?_toList,hv] at this
   exact this
  obtain ⟨ps',H',E',hk,g1,g2,g3⟩ := frzT_sound hs hf ha hk
  refine ⟨_,_,_,hk,⟨vs,rfl,by simpa using g1.length.symm,fun j x hx => ?_⟩,g2,g3⟩
  obtain ⟨z,hz,hr⟩ := g1.get hx
  rw [Array.getD_eq_getD_getElem?,<- Array.getElem?_toList,hz]
  exact hr
 ·simp at hk
theorem setNth_get : ∀ {l : List Atom} {i : Nat} {z : Atom} {j : Nat} {x : Atom},(setNth l i z)[j]? = some x -> (j = i /\ x = z) \/ (j ≠ i /\ l[j]? = some x)
 | [],_,_,_,_,h => by simp [setNth] at h
 | _ :: _,0,z,0,x,h => by simp [setNth] at h; exact Or.inl ⟨rfl,h.symm⟩
 | _ :: _,0,z,j + 1,x,h => by simp [setNth] at h; exact Or.inr ⟨by omega,by simpa using h⟩
 | y :: _,i + 1,z,0,x,h => by simp [setNth] at h; exact Or.inr ⟨by omega,by simpa using h⟩
 | _ :: l,i + 1,z,j + 1,x,h => by
  simp only [setNth,List.getElem?_cons_succ] at h
  rcases setNth_get h with ⟨h1,h2⟩ | ⟨h1,h2⟩
  ·exact Or.inl ⟨by omega,h2⟩
  ·exact Or.inr ⟨by omega,by simpa using h2⟩
theorem setNth_len : ∀ (l : List Atom) (i : Nat) (z : Atom),(setNth l i z).length = l.length
 | [],_,_ => rfl
 | _ :: _,0,_ => rfl
 | _ :: l,i + 1,z => by simp [setNth,setNth_len l i z]
theorem emp_add {nx : Nat} (T : RecT) (hs : Sim RT E H fp w) (hf : Fresh E nx) : ∃ E' fp',R RT E' (.full nx false) (.slice none 0 0) /\ Sim RT E' (putH H nx (some (.recs true T []))) fp' w /\
  Step E H fp w nx E' (putH H nx (some (.recs true T []))) fp' w (nx + 1) := by
 have hno : ∀ x,¬ Own ⟨0,0,0,0,recW T,true⟩ x := fun x hx => by
  obtain ⟨_,h1,h2⟩ := hx
  simp only [if_true,Nat.zero_mul] at h2
  omega
 have hadd := Sim.add (nx:=nx) (b:=.recs true T []) (I:=⟨0,0,0,0,recW T,true⟩) (w' := w) (O:=fun _ => False) hs (hf _ (Nat.le_refl _)) (Frm.refl w _) (fun _ _ h => h) (fun _ _ _ h => h)
  ⟨fun _ => Iff.rfl,Nat.le_refl _,fun x hx => absurd hx (hno x),rfl,rfl,fun _ => rfl,fun i j x hi => by simp at hi⟩ (fun x hx => absurd hx (hno x))
 exact ⟨_,_,R.full (I:=⟨0,0,0,0,recW T,true⟩) (by simp [putI]) (Or.inr ⟨rfl,fun _ => rfl⟩) (fun h => by simp at h) (Nat.le_refl _) (fun _ => rfl),hadd,Step.add hf (fun _ _ h => h) (Frm.refl w _) (fun x hx => absurd hx (hno x))⟩
theorem emp_sound {nx : Nat} {T : RecT} {i : Nat} {v : AV} {u : Value} {k : AV -> Heap -> Nat -> Option Y} (hs : Sim RT E H fp w) (hf : Fresh E nx) (hv : RV RT E v u) (hk : empA T i v H nx k = some y) :
  ∃ v' H' nx' E' fp',k v' H' nx' = some y /\ RV RT E' v' u /\ Sim RT E' H' fp' w /\ Step E H fp w nx E' H' fp' w nx' := by
 unfold empA at hk
 split at hk
 ·have hv' : R RT E .nils u := hv
  have hu : u = .slice none 0 0 := by cases hv'; rfl
  subst hu
  obtain ⟨E',fp',g1,g2,g3⟩ := emp_add T hs hf
  exact ⟨_,_,_,_,_,hk,g1,g2,g3⟩
 ·rename_i cs
  split at hk
  ·rename_i hn
   obtain ⟨vs,rfl,hc⟩ := hv
   obtain ⟨E',fp',g1,g2,g3⟩ := emp_add T hs hf
   rw [nth_eq] at hn
   have hnil : vs.getD i undef = .slice none 0 0 := by
    have h := hc.2 i _ hn
    generalize vs.getD i undef = q at h
    cases h; rfl
   refine ⟨_,_,_,_,_,hk,⟨vs,rfl,by rw [setNth_len]; exact hc.1,fun j x hj => ?_⟩,g2,g3⟩
   rcases setNth_get hj with ⟨rfl,rfl⟩ | ⟨_,h⟩
   ·rw [hnil]; exact g1
   ·exact (hc.2 j x h).mono g3.le
  ·exact ⟨_,_,_,_,_,hk,hv,hs,Step.refl hf⟩
 ·exact ⟨_,_,_,_,_,hk,hv,hs,Step.refl hf⟩
theorem putO_put (F : Fr) (d : Option Tmp) (v v' : AV) : putO (putO F d v) d v' = putO F d v' := by
 cases d with
 | none => rfl
 | some d =>
  funext j
  simp only [putO,putF_eq]
  split <;> rfl
theorem evOneN_sound (hC : CfgOK C) {inl : Inl} (hinl : InlOK C inl) {K : FCfg} {nx : Nat} {o : Oper} {k : AV -> KS Y} (hs : Sim C.RT E H fp w) (hf : Fresh E nx) (hF : RF C.RT E F a)
  (hk : evOneN C K inl o F H nx k = some y) {Q : Exit -> Act -> World -> Prop} {next : Act -> World -> Prop}
  (hnext : ∀ v u H' nx' E' fp' w',k v (putO F o.dst v) H' nx' = some y -> RV C.RT E' v u -> Sim C.RT E' H' fp' w' -> Step E H fp w nx E' H' fp' w' nx' -> next (a.put o.dst u) w') :
  o.wp C.P a w next Q := by
 unfold evOneN at hk
 split at hk
 ·rename_i n neg hn
  obtain ⟨v,u,h1,h2,h3⟩ := nilT_sound (k:=fun v => k v (putO F o.dst v) H nx) hF hs hn hk
  unfold Oper.wp
  rw [h2]
  exact hnext _ _ _ _ _ _ _ h1 h3 hs (Step.refl hf)
 ·cases hm : memO K.frz o.dst with
  | false =>
   simp only [hm] at hk
   cases he : empT K.emps o.dst with
   | none =>
    simp only [he] at hk
    exact evOne_sound hC hinl hs hf hF hk hnext
   | some T =>
    simp only [he] at hk
    refine evOne_sound hC hinl hs hf hF hk fun v u H' nx' E' fp' w' g1 g2 g3 g4 => ?_
    obtain ⟨v',H2,nx2,E2,fp2,h1,h2,h3,h4⟩ := emp_sound g3 g4.fresh g2 g1
    rw [putO_put] at h1
    exact hnext _ _ _ _ _ _ _ h1 h2 h3 (g4.trans h4)
  | true =>
   simp only [hm] at hk
   refine evOne_sound hC hinl hs hf hF hk fun v u H' nx' E' fp' w' g1 g2 g3 g4 => ?_
   obtain ⟨v',H2,E2,h1,h2,h3,h4⟩ := frz_sound (nx:=nx') g3 g4.fresh g2 g1
   rw [putO_put] at h1
   exact hnext _ _ _ _ _ _ _ h1 h2 h3 (g4.trans h4)
theorem asgOps_head {o : Oper} {os : List Oper} {j : Nat} (h : eqO o.dst (some j) = true) : asgOps (o :: os) j = true := by simp [asgOps,h]
theorem asgOps_tail {o : Oper} {os : List Oper} {j : Nat} (h : asgOps os j = true) : asgOps (o :: os) j = true := by simp [asgOps,h]
theorem dstOps_cons {n : Nat} {o : Oper} {os : List Oper} (h : dstOps n (o :: os) = true) : (∀ d,o.dst = some d -> d < n) /\ dstOps n os = true := by
 simp only [dstOps,Bool.and_eq_true] at h
 refine ⟨fun d hd => ?_,h.2⟩
 have := h.1
 rw [hd] at this
 exact blt_iff.1 this
theorem evOps_sound (hC : CfgOK C) {inl : Inl} (hinl : InlOK C inl) {K : FCfg} {ops : Array Oper} {k : KS Y} {n : Nat} {Q : Exit -> Act -> World -> Prop} :
  ∀ {l : List Oper} {F : Fr} {H : Heap} {nx : Nat} {E : Env} {fp : Fp} {w : World} {a : Act},evOps C K inl ops.toList l F H nx k = some y -> St C.RT E H fp w F a nx n -> dstOps n l = true ->
   (∀ F' H' nx' E' fp' a' w',k F' H' nx' = some y -> St C.RT E' H' fp' w' F' a' nx' n -> Trip C E H fp w nx E' H' fp' w' nx' -> Same (asgOps l) a a' -> Q .normal a' w') ->
   wpList C.P ops Q l a w
 | [],F,H,nx,E,fp,w,a,hk,st,_,hQ => hQ _ _ _ _ _ _ _ hk st (.refl st.fresh) (.refl _ _)
 | o :: os,F,H,nx,E,fp,w,a,hk,st,hd,hQ => by
  obtain ⟨hd1,hd2⟩ := dstOps_cons hd
  simp only [evOps] at hk
  simp only [wpList]
  rcases evGuard_sound (RT:=C.RT) (E:=E) (a:=a) (fun g want d _ _ => st.rf d) hk with ⟨hw,hk⟩ | ⟨hw,hk⟩
  ·rw [if_pos hw]
   refine Or.inl (evOneN_sound hC hinl st.sim st.fresh st.rf hk fun v u H' nx' E' fp' w' g1 g2 g3 g4 => ?_)
   have hst : St C.RT E' H' fp' w' (putO F o.dst v) (a.put o.dst u) nx' n :=
    ⟨g3,g4.fresh,(st.rf.mono g4.le).put (fun t ht => by rw [st.size]; exact hd1 t ht) g2,by rw [Act.put_size]; exact st.size,by cases o.dst <;> exact st.df⟩
   exact evOps_sound hC hinl g1 hst hd2 fun F2 H2 nx2 E2 fp2 a2 w2 q1 q2 q3 q4 =>
    hQ _ _ _ _ _ _ _ q1 q2 (g4.trip.trans q3) (((Same.put a o.dst u).mono fun j hj => asgOps_head hj).trans (q4.mono fun j hj => asgOps_tail hj))
  ·rw [if_neg (by simp [hw])]
   have hst : St C.RT E H fp w (putO F o.dst (.at .und)) (a.put o.dst undef) nx n :=
    ⟨st.sim,st.fresh,st.rf.put (fun t ht => by rw [st.size]; exact hd1 t ht) R.und,by rw [Act.put_size]; exact st.size,by cases o.dst <;> exact st.df⟩
   exact evOps_sound hC hinl hk hst hd2 fun F2 H2 nx2 E2 fp2 a2 w2 q1 q2 q3 q4 =>
    hQ _ _ _ _ _ _ _ q1 q2 q3 (((Same.put a o.dst undef).mono fun j hj => asgOps_head hj).trans (q4.mono fun j hj => asgOps_tail hj))
end Go.Eng
