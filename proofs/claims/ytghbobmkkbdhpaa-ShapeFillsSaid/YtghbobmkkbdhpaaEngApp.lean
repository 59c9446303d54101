/-
  The engine, part six and a half: a struct is appended to a row of structs.
  Conditions: none; nothing is claimed of the program here.
-/
import Derived.Test.YtghbobmkkbdhpaaEngMem
set_option linter.unusedSimpArgs false
set_option linter.unusedVariables false
namespace Go.Eng
variable {RT : RoTab} {E : Env} {F : Fr} {a : Act} {H : Heap} {fp : Fp} {w : World} {P : Program} {Y : Type} {y : Y}

theorem recOf_rec : ∀ {cs : List Atom} {T : RecT} {row : List Int}, recOf cs = some (T, row) → recA T row = cs
  | [], T, row, h => by
    simp only [recOf, Option.some.injEq, Prod.mk.injEq] at h
    obtain ⟨rfl, rfl⟩ := h
    rfl
  | .roi k xs :: [], T, row, h => by
    simp only [recOf, Option.some.injEq, Prod.mk.injEq] at h
    obtain ⟨rfl, rfl⟩ := h
    rfl
  | .int k n :: r, T, row, h => by
    simp only [recOf] at h
    split at h
    · rename_i T' row' hr
      simp only [Option.some.injEq, Prod.mk.injEq] at h
      obtain ⟨rfl, rfl⟩ := h
      have := recOf_rec hr
      simp only [recA, recAs, List.headD_cons, List.tail_cons]
      simp only [recA] at this
      rw [this]
    · simp at h

/-- Cells that stand one behind the other. -/
def HoldsV (w : World) (us : List Value) (base : Option Addr) : Prop :=
  ∀ i, i < us.length → ∃ a, base = some a ∧ a.spot = none ∧ w.cell? ⟨a.block, a.off + i, none⟩ = us[i]?

theorem firstV_run {us : List Value} {base : Option Addr} {sz n l c : Nat} (h : HoldsV w us base) (hl : us.length = n * sz) :
    (Builtin.firstCells sz n (.slice base l c)).run P w = .ok us.toArray w := by
  cases base with
  | none =>
    have : us = [] := by
      cases us with
      | nil => rfl
      | cons u us => obtain ⟨a, hb, _⟩ := h 0 (by simp); simp at hb
    subst this
    simp [Builtin.firstCells]
  | some a =>
    simp only [Builtin.firstCells]
    rcases Nat.eq_zero_or_pos us.length with h0 | h0
    · have : us = [] := by simpa using h0
      subst this
      rw [← hl]
      simp [loadCells, loadCellsFrom]
    · obtain ⟨a', hb, hsp, _⟩ := h 0 h0
      obtain rfl := Option.some.inj hb
      have := run_loadCells (P := P) w a (n * sz) (fun j => us.getD j undef) (fun j hj => by
        obtain ⟨a', hb, _, hm⟩ := h j (by omega)
        obtain rfl := Option.some.inj hb
        rw [addr_eta hsp, add_lit, hm, List.getD_eq_getElem?_getD, List.getElem?_eq_getElem (by omega)]
        rfl)
      rw [this]
      congr 2
      apply List.ext_getElem?
      intro j
      by_cases hj : j < us.length
      · simp [List.getD_eq_getElem?_getD, hj, show j < n * sz by omega]
      · rw [List.getElem?_eq_none (by simp; omega), List.getElem?_eq_none (by omega)]

/-- APPEND of elements of several cells. -/
theorem appendV_run0 {t t2 : TypeId} {e e2 : TypeId} {sz n m cap : Nat} {us vs : List Value} {base : Option Addr} {u : Value} (hu : P.underlying t = some (.slice e))
    (hu2 : P.underlying t2 = some (.slice e2)) (hh : hasT P e = true) (hsz : sizeT P e = sz) (hbytes : P.bytesOf e ≤ 64) (hzv : ∀ w, ∃ zv, (zeroValue e).run P w = .ok zv w ∧ zv.cells.size = sz)
    (hx : HoldsV w us base) (hxl : us.length = n * sz) (hyl : vs.length = m * sz) (hlen : (Builtin.lenOf u).run P w = .ok m w) (hfy : (Builtin.firstCells sz m u).run P w = .ok vs.toArray w) (hfy2 : (Builtin.firstCells sz m u).run P w.drew = .ok vs.toArray w.drew) (hb : n + m ≤ mostR) (o : TypeId) :
    (n + m ≤ cap ∧ ∀ w', Stored P w base (n * sz) vs w' →
      (Builtin.append_ #[t, t2] o #[.slice base n cap, u]).run P w = .ok (.slice base (n + m) cap) w') ∨
    (cap < n + m ∧ ∃ newCap cs, n + m ≤ newCap ∧ cs.size = newCap * sz ∧ (∀ j, j < (us ++ vs).length → cs[j]? = (us ++ vs)[j]?) ∧
      (Builtin.append_ #[t, t2] o #[.slice base n cap, u]).run P w = .ok (.slice (some ⟨w.heap.size, 0, none⟩) (n + m) newCap) (w.drew.alloc (.cells cs e))) := by
  have hti : ∀ v : World, (typeInfo e).run P v = .ok ((P.info? e).getD default) v := fun v => by
    unfold hasT at hh
    cases hi : P.info? e with
    | none => simp [hi] at hh
    | some i => simp [typeInfo, hi]
  have hby : ((P.info? e).getD default).bytes ≤ 64 := by
    unfold Program.bytesOf at hbytes
    unfold hasT at hh
    cases hi : P.info? e with
    | none => simp [hi] at hh
    | some i => simpa [hi] using hbytes
  by_cases hroom : n + m ≤ cap
  · refine Or.inl ⟨hroom, fun w' hw' => ?_⟩
    cases base with
    | none =>
      simp only [Stored] at hw'
      subst hw'
      simp [Builtin.append_, run_und hu, run_und hu2, run_size hh, hsz, hlen, hfy, hroom]
    | some a =>
      simp only [Stored] at hw'
      simp [Builtin.append_, run_und hu, run_und hu2, run_size hh, hsz, hlen, hfy, hroom, hw']
  · refine Or.inr ⟨by omega, ?_⟩
    obtain ⟨zv, hzv2, hz1⟩ := hzv w.drew
    have hfx : (Builtin.firstCells sz n (.slice base n cap)).run P w.drew = .ok us.toArray w.drew := firstV_run (w := w.drew) hx hxl
    let q := Question.appendCap (n + m) cap e
    let nc := q.cut (w.tape w.drawn q)
    have hnc : n + m ≤ nc := by simp only [nc, q, Question.cut]; omega
    let cs : Array Value := us.toArray ++ vs.toArray ++ Builtin.zeroCells zv.cells (nc - (n + m))
    have hcs : cs.size = nc * sz := by
      have : (nc - (n + m)) * sz + (n + m) * sz = nc * sz := by rw [← Nat.add_mul]; congr 1; omega
      rw [Nat.add_mul] at this
      simp [cs, Builtin.zeroCells, hz1]
      omega
    refine ⟨nc, cs, hnc, hcs, fun j hj => ?_, ?_⟩
    · simp only [cs]
      rw [Array.getElem?_append_left (by simpa using hj)]
      simp [Array.getElem?_append, List.getElem?_append]
    · have hbig : ¬ ((n + m : Nat) : Int) > IntKind.i64.max := by
        have h1 : IntKind.i64.max = 9223372036854775807 := rfl
        have h2 : mostR = 1000000 := rfl
        omega
      have hnext : ¬ Builtin.nextslicecap (n + m) cap * ((P.info? e).getD default).bytes > 2 ^ 48 := by
        have h1 := nextcap_le (n := n + m) (c := cap) (by omega)
        have h3 : Builtin.nextslicecap (n + m) cap * ((P.info? e).getD default).bytes ≤ (2 * (n + m) + 192) * 64 := Nat.mul_le_mul h1 hby
        have h2 : mostR = 1000000 := rfl
        omega
      have hq : (Question.appendCap (n + m) cap e).forced = false := rfl
      have hch : (choose (.appendCap (n + m) cap e)).run P w = .ok nc w.drew := by
        simp only [run_choose, hq, Bool.false_eq_true, if_false]
        rfl
      simp only [Builtin.append_, List.getElem?_toArray, List.getElem?_cons_zero, List.getElem?_cons_succ, Sem.run_bind, run_und hu, Result.andThen_ok, run_size hh, hsz, run_und hu2, Sem.run_pure, Bool.false_eq_true, if_false, hlen, hroom, hti, hbig, false_and, hnext, hch, run_askRoom, hfx, Bool.not_false, if_true, hfy2, hzv2, newRow, run_newObj]
      rfl

theorem appendV_run {t t2 : TypeId} {e e2 : TypeId} {sz n m cap cap2 : Nat} {us vs : List Value} {base base2 : Option Addr} (hu : P.underlying t = some (.slice e))
    (hu2 : P.underlying t2 = some (.slice e2)) (hh : hasT P e = true) (hsz : sizeT P e = sz) (hbytes : P.bytesOf e ≤ 64) (hzv : ∀ w, ∃ zv, (zeroValue e).run P w = .ok zv w ∧ zv.cells.size = sz)
    (hx : HoldsV w us base) (hxl : us.length = n * sz) (hy : HoldsV w vs base2) (hyl : vs.length = m * sz) (hb : n + m ≤ mostR) (o : TypeId) :
    (n + m ≤ cap ∧ ∀ w', Stored P w base (n * sz) vs w' →
      (Builtin.append_ #[t, t2] o #[.slice base n cap, .slice base2 m cap2]).run P w = .ok (.slice base (n + m) cap) w') ∨
    (cap < n + m ∧ ∃ newCap cs, n + m ≤ newCap ∧ cs.size = newCap * sz ∧ (∀ j, j < (us ++ vs).length → cs[j]? = (us ++ vs)[j]?) ∧
      (Builtin.append_ #[t, t2] o #[.slice base n cap, .slice base2 m cap2]).run P w = .ok (.slice (some ⟨w.heap.size, 0, none⟩) (n + m) newCap) (w.drew.alloc (.cells cs e))) :=
  appendV_run0 hu hu2 hh hsz hbytes hzv hx hxl hyl rfl (firstV_run hy hyl) (firstV_run (w := w.drew) hy hyl) hb o

/-- An element's cells are what its row says. -/
def RecR (RT : RoTab) (E : Env) (T : RecT) (xss : List (List Int)) (us : List Value) : Prop :=
  us.length = xss.length * recW T ∧ ∀ i j x, i < xss.length → (recA T (xss.getD i []))[j]? = some x → ∃ v, us[i * recW T + j]? = some v ∧ R RT E x v

theorem RecR.snoc {T : RecT} {xss : List (List Int)} {row : List Int} {us vs : List Value} (h : RecR RT E T xss us) (hv : RecR RT E T [row] vs) : RecR RT E T (xss ++ [row]) (us ++ vs) := by
  have hvl : vs.length = recW T := by have := hv.1; simpa using this
  refine ⟨by rw [List.length_append, List.length_append, h.1, hvl, List.length_singleton, Nat.add_mul, Nat.one_mul], fun i j x hi hj => ?_⟩
  rw [List.length_append, List.length_singleton] at hi
  have hjw : j < recW T := by
    rw [← recA_len T ((xss ++ [row]).getD i [])]
    rcases Nat.lt_or_ge j (recA T ((xss ++ [row]).getD i [])).length with h' | h'
    · exact h'
    · rw [List.getElem?_eq_none h'] at hj; simp at hj
  by_cases hix : i < xss.length
  · have hg : (xss ++ [row]).getD i [] = xss.getD i [] := by simp [List.getD_eq_getElem?_getD, List.getElem?_append_left hix]
    rw [hg] at hj
    obtain ⟨v, h1, h2⟩ := h.2 i j x hix hj
    have := cell_in hix hjw
    exact ⟨v, by rw [List.getElem?_append_left (by rw [h.1]; exact this)]; exact h1, h2⟩
  · have hi' : i = xss.length := by omega
    subst hi'
    have hg : (xss ++ [row]).getD xss.length [] = row := by simp [List.getD_eq_getElem?_getD]
    rw [hg] at hj
    obtain ⟨v, h1, h2⟩ := hv.2 0 j x (by simp) (by simpa using hj)
    refine ⟨v, ?_, h2⟩
    rw [List.getElem?_append_right (by rw [h.1]; omega), h.1, show xss.length * recW T + j - xss.length * recW T = j by omega]
    simpa using h1

theorem RecR.one {T : RecT} {xss : List (List Int)} {us : List Value} (h : RecR RT E T xss us) : ∀ u ∈ us, u.oneCell' = true := by
  intro u hu
  obtain ⟨p, hp, rfl⟩ := List.getElem_of_mem hu
  have hw : 0 < recW T := by
    rcases Nat.eq_zero_or_pos (recW T) with h0 | h0
    · rw [h.1, h0] at hp; omega
    · exact h0
  have hi : p / recW T < xss.length := by
    rw [Nat.div_lt_iff_lt_mul hw, ← h.1]
    exact hp
  have hj : p % recW T < recW T := Nat.mod_lt _ hw
  have hlen := recA_len T (xss.getD (p / recW T) [])
  obtain ⟨v, h1, h2⟩ := h.2 (p / recW T) (p % recW T) _ hi (List.getElem?_eq_getElem (by omega))
  have hpe : p / recW T * recW T + p % recW T = p := by rw [Nat.mul_comm]; exact Nat.div_add_mod _ _
  rw [hpe, List.getElem?_eq_getElem hp] at h1
  obtain rfl := Option.some.inj h1
  rcases recAs_io _ _ _ (List.getElem?_eq_getElem (show p % recW T < (recA T (xss.getD (p / recW T) [])).length by omega)) with ⟨k, n, hx⟩ | ⟨k, l, hx⟩
  · have hx' : (recA T (xss.getD (p / recW T) []))[p % recW T]'(by omega) = .int k n := hx
    rw [hx'] at h2
    rw [R.int_inv h2]
    rfl
  · have hx' : (recA T (xss.getD (p / recW T) []))[p % recW T]'(by omega) = .roi k l := hx
    rw [hx'] at h2
    generalize us[p] = u at h2
    cases h2
    rfl

theorem RecR.mono {E' : Env} {T : RecT} {xss : List (List Int)} {us : List Value} (hE : E.Le E') (h : RecR RT E T xss us) : RecR RT E' T xss us :=
  ⟨h.1, fun i j x hi hj => let ⟨v, h1, h2⟩ := h.2 i j x hi hj; ⟨v, h1, h2.mono hE⟩⟩

/-- A block of such elements, in memory. -/
theorem recs_ok {T : RecT} {xss : List (List Int)} {us : List Value} {I : Info} {f : Nat × Nat → Prop} (h : RecR RT E T xss us) (hown : ∀ x, f x ↔ Own I x) (hcap : I.n ≤ I.cap)
    (hlive : ∀ x, f x → ∃ v, w.cell? ⟨x.1, x.2, none⟩ = some v ∧ w.frozen? ⟨x.1, x.2, none⟩ = false) (hw : I.w = recW T) (hn : I.n = xss.length) (hg : I.grow = true)
    (hc : ∀ p, p < us.length → w.cell? ⟨I.cb, I.coff + p, none⟩ = us[p]?) : BlkOK RT E (.recs true T xss) I f w :=
  ⟨hown, hcap, hlive, hw, hn, fun _ => hg, fun i j x hi hj => by
    obtain ⟨v, h1, h2⟩ := h.2 i j x hi hj
    have hp : i * recW T + j < us.length := by
      rcases Nat.lt_or_ge (i * recW T + j) us.length with h' | h'
      · exact h'
      · rw [List.getElem?_eq_none h'] at h1; simp at h1
    exact ⟨v, by rw [hw, hc _ hp, h1], h2⟩⟩

/-- New memory. -/
theorem grownV_sound {nx : Nat} {T : RecT} {xss : List (List Int)} {us : List Value} {cs : Array Value} {e : TypeId} {nn : Bool} {newCap : Nat} {H0 : Heap} (hs : Sim RT E H fp w) (hf : Fresh E nx)
    (hsub : ∀ id b, H id = some b → H0 id = some b) (hcap : xss.length ≤ newCap) (hr : RecR RT E T xss us) (hcs : cs.size = newCap * recW T) (hc : ∀ j, j < us.length → cs[j]? = us[j]?) :
    ∃ E' fp', RV RT E' (.at (.full nx nn)) (.slice (some ⟨w.heap.size, 0, none⟩) xss.length newCap) ∧ Sim RT E' (putH H nx (some (.recs true T xss))) fp' (w.drew.alloc (.cells cs e)) ∧
      Step E H0 fp w nx E' (putH H nx (some (.recs true T xss))) fp' (w.drew.alloc (.cells cs e)) (nx + 1) := by
  have hd := hs.frm (Frm.drew w (fun _ => False)) (fun _ _ h => h) (fun _ _ _ h => h)
  let I : Info := ⟨w.heap.size, 0, xss.length, newCap, recW T, true⟩
  have hle : E.Le (putI E nx I) := putI_le (hf nx (Nat.le_refl _))
  have hown : ∀ x, Own I x → x.1 = w.heap.size ∧ x.2 < newCap * recW T := fun x hx => by
    obtain ⟨h1, h2, h3⟩ := hx
    simp only [I, if_true] at h1 h3
    exact ⟨h1, by omega⟩
  have ok : BlkOK RT (putI E nx I) (.recs true T xss) I (Own I) (w.drew.alloc (.cells cs e)) :=
    recs_ok (hr.mono hle) (fun _ => Iff.rfl) hcap (fun x hx => by
      obtain ⟨h1, h2⟩ := hown x hx
      have e1 : w.heap.size = w.drew.heap.size := rfl
      rw [h1, e1, cells_alloc, frozen_alloc]
      exact ⟨cs[x.2]'(by omega), by simp, rfl⟩) rfl rfl rfl (fun p hp => by
      show (w.drew.alloc (.cells cs e)).cell? ⟨w.drew.heap.size, 0 + p, none⟩ = _
      rw [Nat.zero_add, cells_alloc, hc p hp])
  have g1 := Sim.add (nx := nx) (O := fun _ => False) hd (hf nx (Nat.le_refl _)) (Frm.alloc w.drew (.cells cs e) (fun _ => False)) (fun _ _ h => h) (fun _ _ _ h => h) ok (fun x hx => new_apart hd (hown x hx).1)
  refine ⟨_, _, ?_, g1, Step.add hf hsub ((Frm.drew w _).trans (Frm.alloc w.drew (.cells cs e) _) fun x hx _ => hx) (fun x hx hlt => ?_)⟩
  · exact R.full (I := I) (base := some ⟨w.heap.size, 0, none⟩) (by simp [putI]) (Or.inl rfl) (fun _ => rfl) hcap (fun _ => rfl)
  · have := (hown x hx).1
    omega

theorem zeroLen_facts {e : TypeId} {sz : Nat} (h : zeroLen P e sz = true) : hasT P e = true ∧ ∀ w : World, ∃ zv, (zeroValue e).run P w = .ok zv w ∧ zv.cells.size = sz := by
  unfold zeroLen at h
  split at h
  · rename_i z hz
    have hl := Nat.eq_of_beq_eq_true h
    rw [lenA_eq] at hl
    refine ⟨?_, fun w => ?_⟩
    · obtain ⟨_, _, _, hh⟩ := zero_sound (P := P) (w := default) (RT := fun _ => none) (E := ⟨fun _ => none, fun _ => none⟩) hz
      exact hh
    · obtain ⟨zv, h1, h2, _⟩ := zero_sound (P := P) (w := w) (RT := fun _ => none) (E := ⟨fun _ => none, fun _ => none⟩) hz
      exact ⟨zv, h1, by rw [h2.1, hl]⟩
  · simp at h

/-- ONE STRUCT IS APPENDED. -/
theorem appendR_sound {nx : Nat} {t t2 o e : TypeId} {x z : AV} {ux uz : Value} {k : AV → Heap → Nat → Option Y} (hs : Sim RT E H fp w) (hf : Fresh E nx)
    (hx : RV RT E x ux) (hz : RV RT E z uz) (hse : structE P t = some e) (hk : appendR P H nx t2 e x z k = some y) :
    ∃ v H' nx' E' fp' u w', k v H' nx' = some y ∧ (Builtin.append_ #[t, t2] o #[ux, uz]).run P w = .ok u w' ∧ RV RT E' v u ∧ Sim RT E' H' fp' w' ∧ Step E H fp w nx E' H' fp' w' nx' := by
  have hu : P.underlying t = some (.slice e) := by
    unfold structE at hse
    split at hse
    · rename_i e' hu
      split at hse
      · simp only [Option.some.injEq] at hse; subst hse; exact hu
      · simp at hse
    · simp at hse
  unfold appendR at hk
  split at hk
  · rename_i e2 id2 nn2 hu2
    split at hk
    · rename_i wd cs hb2
      split at hk
      · rename_i T row hrec
        rw [gate_some] at hk
        obtain ⟨hg, hk⟩ := hk
        simp only [Bool.and_eq_true] at hg
        obtain ⟨g1, g2, g3, g4, g5⟩ := hg
        have g1 := Nat.eq_of_beq_eq_true g1
        rw [lenA_eq] at g1
        have g2 := Nat.eq_of_beq_eq_true g2
        have g4 := Nat.le_of_ble_eq_true g4
        obtain ⟨hh, hzv⟩ := zeroLen_facts g5
        have hwd : 0 < wd := Nat.lt_of_lt_of_le Nat.zero_lt_one (by simpa [Nat.blt] using g3)
        have hcs := recOf_rec hrec
        have hrw : recW T = wd := by rw [← recA_len T row, hcs, g1]
        -- the element
        obtain ⟨base2, cap2, vs, rfl, hyV, hyl, hyR⟩ : ∃ base2 cap2 vs, uz = .slice base2 1 cap2 ∧ HoldsV w vs base2 ∧ vs.length = 1 * wd ∧ RecR RT E T [row] vs := by
          cases hz with
          | full hI hbase hn hcc hgg =>
            rename_i cap I base
            obtain ⟨J, hJ, ok⟩ := hs.blk _ _ hb2
            rw [hI] at hJ
            obtain rfl := Option.some.inj hJ
            obtain ⟨kw, kn, kg, kc⟩ := ok.kind
            have hn1 : I.n = 1 := by
              rw [g1] at kn
              rcases Nat.lt_trichotomy I.n 1 with h | h | h
              · have : I.n = 0 := by omega
                rw [this] at kn; omega
              · exact h
              · have := Nat.mul_le_mul_right wd h
                omega
            have hb : base = some ⟨I.cb, I.coff, none⟩ := by
              rcases hbase with h | ⟨h, _⟩
              · exact h
              · omega
            subst hb
            have hcell : ∀ j, j < wd → ∃ v, w.cell? ⟨I.cb, I.coff + j, none⟩ = some v ∧ ∀ x, cs[j]? = some x → R RT E x v := fun j hj => by
              obtain ⟨v, h1, h2⟩ := kc j _ (List.getElem?_eq_getElem (by omega))
              exact ⟨v, h1, fun x hx => by rw [List.getElem?_eq_getElem (by omega)] at hx; obtain rfl := Option.some.inj hx; exact h2⟩
            refine ⟨_, cap, (List.range wd).map fun j => (w.cell? ⟨I.cb, I.coff + j, none⟩).getD undef, by rw [hn1], fun i hi => ?_, by simp, by simp [hrw], fun i j x hi hj => ?_⟩
            · have hi' : i < wd := by simpa using hi
              obtain ⟨v, h1, _⟩ := hcell i hi'
              exact ⟨_, rfl, rfl, by simp [h1, hi']⟩
            · have : i = 0 := by simpa using hi
              subst this
              have hj' : cs[j]? = some x := by rw [← hcs]; simpa using hj
              have hjw : j < wd := by
                rcases Nat.lt_or_ge j cs.length with h | h
                · omega
                · rw [List.getElem?_eq_none h] at hj'; simp at hj'
              obtain ⟨v, h1, h2⟩ := hcell j hjw
              exact ⟨v, by simp [h1, hjw], h2 x hj'⟩
        split at hk
        · -- onto nothing
          have hx' : ux = .slice none 0 0 := by cases hx; rfl
          subst hx'
          have hxV : HoldsV w [] none := fun i hi => by simp at hi
          rcases appendV_run (P := P) (w := w) (n := 0) (m := 1) (cap := 0) (cap2 := cap2) hu hu2 hh g2.symm g4 (by rw [g2] at hzv; rw [g2]; exact hzv) hxV (by simp) hyV hyl (by decide) o with ⟨hr, _⟩ | ⟨_, newCap, ca, h1, h2, h3, h4⟩
          · omega
          · simp only [List.nil_append, Nat.zero_add] at h1 h3 h4
            obtain ⟨E', fp', q1, q2, q3⟩ := grownV_sound (H0 := H) (nx := nx) (nn := false) (e := e) (newCap := newCap) hs hf (fun _ _ h => h) (by simpa using h1) hyR (by rw [h2, hrw]) h3
            exact ⟨_, _, _, E', fp', _, _, hk, h4, q1, q2, q3⟩
        · rename_i id nn
          split at hk
          · rename_i T' xss hb
            rw [gate_some, eqT_iff, chk_some] at hk
            obtain ⟨rfl, hbd, hk⟩ := hk
            have hne : id ≠ id2 := fun h => by rw [h, hb2] at hb; simp at hb
            cases hx with
            | full hI hbase hn hcc hgg =>
              rename_i cap I base
              obtain ⟨J, hJ, ok⟩ := hs.blk _ _ hb
              rw [hI] at hJ
              obtain rfl := Option.some.inj hJ
              obtain ⟨hw, hnn, hgr, hc⟩ := ok.kind
              have hgr := hgr rfl
              have hcap := ok.cap
              obtain rfl := hgg hgr
              rw [hrw] at hw
              have hsk : Sim RT E (putH H id none) fp w := hs.sub kill_sub
              have hlive0 : ∀ p, p < I.cap * wd → fp id (I.cb, I.coff + p) := fun p hp => by
                refine (ok.own _).2 ⟨rfl, by simp, ?_⟩
                simp only [hgr, if_true, hw]
                omega
              have hnc : xss.length * wd ≤ I.cap * wd := Nat.mul_le_mul_right wd (by omega)
              obtain ⟨us, hus⟩ : ∃ us : List Value, us = (List.range (xss.length * wd)).map fun p => (w.cell? ⟨I.cb, I.coff + p, none⟩).getD undef := ⟨_, rfl⟩
              have husl : us.length = xss.length * wd := by rw [hus]; simp
              have hcellU : ∀ p, p < us.length → w.cell? ⟨I.cb, I.coff + p, none⟩ = us[p]? := fun p hp => by
                obtain ⟨v, h1, _⟩ := ok.live _ (hlive0 p (by omega))
                have hp' : p < xss.length * wd := by omega
                simp only at h1
                rw [hus]
                simp [h1, hp']
              have hxR : RecR RT E T xss us := ⟨by rw [husl, hrw], fun i j x hi hj => by
                obtain ⟨v, h1, h2⟩ := hc i j x hi hj
                have hjw : j < wd := by
                  rw [← hrw, ← recA_len T (xss.getD i [])]
                  rcases Nat.lt_or_ge j (recA T (xss.getD i [])).length with h' | h'
                  · exact h'
                  · rw [List.getElem?_eq_none h'] at hj; simp at hj
                have := cell_in hi hjw
                rw [hrw, ← hcellU _ (by rw [husl]; exact this)]
                rw [hw] at h1
                exact ⟨v, h1, h2⟩⟩
              have hxV : HoldsV w us base := fun i hi => by
                rcases hbase with hbase | ⟨h0, _⟩
                · exact ⟨_, hbase, rfl, hcellU i hi⟩
                · rw [husl, ← hnn, h0] at hi; omega
              have hall := hxR.snoc hyR
              have hvl : vs.length = wd := by omega
              rw [hnn]
              rcases appendV_run (P := P) (w := w) (n := xss.length) (m := 1) (cap := I.cap) (cap2 := cap2) hu hu2 hh g2.symm g4 (by rw [g2] at hzv; rw [g2]; exact hzv) hxV husl hyV hyl hbd o with ⟨hr, hrun⟩ | ⟨_, newCap, ca, h1, h2, h3, h4⟩
              · -- in place
                let J : Info := ⟨I.cb, I.coff, xss.length + 1, I.cap, wd, true⟩
                have hJI : ∀ x, Own J x ↔ fp id x := fun x => by
                  rw [ok.own x]
                  simp only [Own, J, hgr, if_true, hw]
                have hn1c : (xss.length + 1) * wd ≤ I.cap * wd := Nat.mul_le_mul_right wd hr
                have hsum : (xss.length + 1) * wd = xss.length * wd + wd := by rw [Nat.add_mul, Nat.one_mul]
                have hb0 : base = some ⟨I.cb, I.coff, none⟩ := by
                  rcases hbase with h | ⟨h, h2⟩
                  · exact h
                  · have := h2 hgr; omega
                subst hb0
                have hdead : ∀ x, OwnAll (putH H id none) fp x → ¬ fp id x := by
                  rintro x ⟨id', b', hb', hx'⟩ hfx
                  rw [putH_eq] at hb'
                  split at hb'
                  · simp at hb'
                  · rename_i hne
                    exact hs.disj _ _ _ _ x (kill_sub id' b' (by rw [putH_eq, if_neg hne]; exact hb')) hb hne hx' hfx
                obtain ⟨w', s1, s2, s3⟩ := storeCells_run (P := P) (b := I.cb) (o := I.coff + xss.length * wd) vs 0 w hyR.one (fun j hj => by
                  have := ok.live _ (hlive0 (xss.length * wd + j) (by omega))
                  simp only [Nat.zero_add]
                  rw [← Nat.add_assoc] at this
                  exact this)
                have hF : Frm w (fun x => x.1 = I.cb ∧ I.coff + xss.length * wd ≤ x.2 ∧ x.2 < I.coff + xss.length * wd + wd) w' := by
                  refine s2.mono fun x hx => ?_
                  rw [Nat.add_zero, hvl] at hx
                  exact hx
                have hOf : ∀ x : Nat × Nat, (x.1 = I.cb ∧ I.coff + xss.length * wd ≤ x.2 ∧ x.2 < I.coff + xss.length * wd + wd) → fp id x := by
                  rintro ⟨x1, x2⟩ ⟨rfl, hx2, hx3⟩
                  have := hlive0 (x2 - I.coff) (by simp only at hx3; omega)
                  rw [show I.coff + (x2 - I.coff) = x2 by simp only at hx2; omega] at this
                  exact this
                have hle : E.Le (putI E nx J) := putI_le (hf nx (Nat.le_refl _))
                have hok : BlkOK RT (putI E nx J) (.recs true T (xss ++ [row])) J (Own J) w' := by
                  refine recs_ok (hall.mono hle) (fun _ => Iff.rfl) hr (fun x hx => ?_) (by simp only [J]; exact hrw.symm) (by simp [J]) rfl (fun p hp => ?_)
                  · obtain ⟨v, hv, hz⟩ := ok.live x ((hJI x).1 hx)
                    obtain ⟨v', hv'⟩ := hF.live hv
                    exact ⟨v', hv', by rw [hF.frozen (World.block_lt_of_cell? _ _ hv)]; exact hz⟩
                  · rw [List.length_append, husl, hvl] at hp
                    show w'.cell? ⟨I.cb, I.coff + p, none⟩ = _
                    by_cases hpx : p < us.length
                    · rw [List.getElem?_append_left hpx]
                      obtain ⟨v, hv⟩ : ∃ v, w.cell? ⟨I.cb, I.coff + p, none⟩ = some v := ⟨us[p], by rw [hcellU p hpx, List.getElem?_eq_getElem hpx]⟩
                      rw [hF.cell hv (by simp; omega), ← hv, hcellU p hpx]
                    · rw [List.getElem?_append_right (by omega), husl]
                      have := s3 (p - xss.length * wd) (by omega)
                      rw [Nat.zero_add, Nat.add_assoc, show xss.length * wd + (p - xss.length * wd) = p by omega] at this
                      exact this
                have hsim := Sim.add hsk (hf _ (Nat.le_refl _)) hF (fun x hx hO => hdead x hx (hOf x hO)) (fun a v ha hO => (hs.ro a v ha).2.2 id _ hb (hOf _ hO)) hok
                  (fun x hx => ⟨fun id' b' hb' hx' => hdead x ⟨id', b', hb', hx'⟩ ((hJI x).1 hx), fun a v ha he => (hs.ro a v ha).2.2 id _ hb (by rw [he]; exact (hJI x).1 hx)⟩)
                have hstep : Step E H fp w nx (putI E nx J) (putH (putH H id none) nx (some (.recs true T (xss ++ [row])))) (putFp fp nx (Own J)) w' (nx + 1) :=
                  Step.add hf kill_sub (hF.mono fun x hx => ⟨id, _, hb, hOf x hx⟩) (fun x hx _ => ⟨id, _, hb, (hJI x).1 hx⟩)
                refine ⟨_, _, _, _, _, _, _, hk, hrun w' (by simp only [Stored, add_lit]; exact s1), ?_, hsim, hstep⟩
                exact R.full (I := J) (base := some ⟨I.cb, I.coff, none⟩) (by simp [putI]) (Or.inl rfl) (fun _ => rfl) hr (fun _ => rfl)
              · obtain ⟨E', fp', q1, q2, q3⟩ := grownV_sound (H0 := H) (nx := nx) (nn := nn) (e := e) (newCap := newCap) hsk hf kill_sub (xss := xss ++ [row]) (by simpa using h1) hall (by rw [h2, hrw]) h3
                rw [List.length_append, List.length_singleton] at q1
                exact ⟨_, _, _, E', fp', _, _, hk, h4, q1, q2, q3⟩
          · simp at hk
        · simp at hk
      · simp at hk
    · simp at hk
  · simp at hk

end Go.Eng
