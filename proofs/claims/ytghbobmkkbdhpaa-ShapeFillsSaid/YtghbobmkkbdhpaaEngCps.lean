/-
  The engine, part twelve (a): what an operation comes to is one value.
  Conditions: none; nothing is claimed of the program here.
-/
import Derived.Test.YtghbobmkkbdhpaaEngReg
set_option linter.unusedSimpArgs false
set_option linter.unusedVariables false
namespace Go.Eng
variable {RT : RoTab} {E : Env} {F : Fr} {a : Act} {H : Heap} {fp : Fp} {w : World} {P : Program} {Y : Type} {y : Y} {C : Cfg}

/-- What is handed on is handed on as one value. -/
def Cp {X : Type} (f : {Y : Type} → (X → Option Y) → Option Y) : Prop := ∀ (Y : Type) (k : X → Option Y) (y : Y), f k = some y → ∃ x, f some = some x ∧ k x = some y

theorem gate_lift {X : Type} {b : Bool} {z : Option Y} {z' : Option X} {k : X → Option Y} (hk : gate b z = some y) (h : z = some y → ∃ x, z' = some x ∧ k x = some y) :
    ∃ x, gate b z' = some x ∧ k x = some y := by
  rw [gate_some] at hk
  obtain ⟨x, h1, h2⟩ := h hk.2
  exact ⟨x, gate_some.2 ⟨hk.1, h1⟩, h2⟩

theorem chk_lift {X : Type} {c : Prop} [Decidable c] {z : Option Y} {z' : Option X} {k : X → Option Y} (hk : chk c z = some y) (h : z = some y → ∃ x, z' = some x ∧ k x = some y) :
    ∃ x, chk c z' = some x ∧ k x = some y := by
  rw [chk_some] at hk
  obtain ⟨x, h1, h2⟩ := h hk.2
  exact ⟨x, chk_some.2 ⟨hk.1, h1⟩, h2⟩

theorem none_lift {X : Type} {z' : Option X} {k : X → Option Y} (hk : (none : Option Y) = some y) : ∃ x, z' = some x ∧ k x = some y := by simp at hk
theorem leaf_lift {X : Type} {x : X} {k : X → Option Y} (hk : k x = some y) : ∃ x', some x = some x' ∧ k x' = some y := ⟨x, rfl, hk⟩

theorem partA_cp {t : TypeId} {cs : List Atom} {off : Nat} : Cp (fun k => partA P t cs off k) := by
  intro Y k y hk
  unfold partA at hk ⊢
  repeat' split at hk
  all_goals first | exact none_lift hk | exact leaf_lift hk | exact gate_lift hk leaf_lift | exact gate_lift hk none_lift

theorem evLoad_cp {t : TypeId} {x : Atom} : Cp (fun k => evLoad P H t x k) := by
  intro Y k y hk
  unfold evLoad at hk ⊢
  split at hk
  · split at hk
    · exact partA_cp _ _ _ hk
    · exact none_lift hk
  · split at hk
    · exact gate_lift hk leaf_lift
    · exact partA_cp _ _ _ hk
    · refine gate_lift hk fun hk => ?_
      unfold br at hk ⊢
      split at hk
      · exact leaf_lift hk
      · exact leaf_lift hk
    · exact none_lift hk
  · exact partA_cp _ _ _ hk
  · exact none_lift hk

theorem evBin_cp {op : BinOp} {t : TypeId} {x z : AV} : Cp (fun k => evBin P op t x z k) := by
  intro Y k y hk
  unfold evBin at hk ⊢
  split at hk
  · split at hk
    · exact chk_lift hk leaf_lift
    · exact chk_lift hk leaf_lift
    · exact gate_lift hk fun hk => chk_lift hk leaf_lift
    · exact gate_lift hk fun hk => chk_lift hk leaf_lift
    · refine gate_lift hk fun hk => ?_
      split at hk
      · exact leaf_lift hk
      · exact none_lift hk
  all_goals first
    | exact none_lift hk
    | (split at hk <;> first | exact none_lift hk | (split at hk <;> first | exact none_lift hk | (split at hk <;> first | exact none_lift hk | exact leaf_lift hk)) | exact leaf_lift hk)

theorem evUn_cp {op : UnOp} {x : AV} : Cp (fun k => evUn op x k) := by
  intro Y k y hk
  unfold evUn at hk ⊢
  split at hk <;> first | exact none_lift hk | exact leaf_lift hk

theorem evConv_cp {s d : TypeId} {x : AV} : Cp (fun k => evConv P s d x k) := by
  intro Y k y hk
  unfold evConv at hk ⊢
  split at hk
  · exact leaf_lift hk
  · split at hk
    · exact leaf_lift hk
    · exact none_lift hk
  · exact none_lift hk

theorem evField_cp {t : TypeId} {x : AV} {f : Nat} : Cp (fun k => evField P t x f k) := by
  intro Y k y hk
  unfold evField at hk ⊢
  split at hk
  · split at hk
    · exact partA_cp _ _ _ hk
    · exact none_lift hk
  · exact none_lift hk

theorem evFieldAddr_cp {t : TypeId} {x : AV} {f : Nat} : Cp (fun k => evFieldAddr P t x f k) := by
  intro Y k y hk
  unfold evFieldAddr at hk ⊢
  split at hk
  · split at hk
    · refine gate_lift hk fun hk => ?_
      split at hk <;> first | exact none_lift hk | exact leaf_lift hk
    · exact none_lift hk
  · exact none_lift hk

theorem evIndexAddr_cp {t : TypeId} {x ix : AV} : Cp (fun k => evIndexAddr P RT H t x ix k) := by
  intro Y k y hk
  unfold evIndexAddr at hk ⊢
  split at hk
  · split at hk
    · split at hk
      · exact gate_lift hk fun hk => chk_lift hk leaf_lift
      · exact none_lift hk
    · exact none_lift hk
  · exact gate_lift hk leaf_lift
  · exact none_lift hk

theorem evIndex_cp {t : TypeId} {x ix : AV} : Cp (fun k => evIndex P t x ix k) := by
  intro Y k y hk
  unfold evIndex at hk ⊢
  split at hk
  · split at hk
    · split at hk
      · exact gate_lift hk fun hk => chk_lift hk leaf_lift
      · exact none_lift hk
    · exact none_lift hk
  · exact chk_lift hk leaf_lift
  · exact none_lift hk

theorem evExtract_cp {x : AV} {i : Nat} : Cp (fun k => evExtract x i k) := by
  intro Y k y hk
  unfold evExtract at hk ⊢
  split at hk
  · split at hk <;> first | exact none_lift hk | exact leaf_lift hk
  · exact none_lift hk

theorem evAssert_cp {x : AV} {t : TypeId} {ok : Bool} : Cp (fun k => evAssert P x t ok k) := by
  intro Y k y hk
  unfold evAssert at hk ⊢
  split at hk
  · exact none_lift hk
  · refine gate_lift hk fun hk => ?_
    split at hk <;> first | exact none_lift hk | exact leaf_lift hk
  · exact none_lift hk

theorem evIface_cp {t : TypeId} {x : AV} : Cp (fun k => evIface P t x k) := by
  intro Y k y hk
  unfold evIface at hk ⊢
  split at hk <;> first | exact none_lift hk | exact leaf_lift hk

theorem evBuild_cp {t : TypeId} {parts : List (Nat × AV)} : Cp (fun k => evBuild P t parts k) := by
  intro Y k y hk
  unfold evBuild at hk ⊢
  split at hk
  · split at hk
    · exact gate_lift hk leaf_lift
    · exact none_lift hk
  · split at hk
    · exact gate_lift hk leaf_lift
    · exact none_lift hk
  · exact none_lift hk

theorem evMinMax_cp {mx : Bool} {l : List AV} : Cp (fun k => evMinMax mx l k) := by
  intro Y k y hk
  change evMinMax mx l k = some y at hk
  have h : ∃ kx a ky b, l = [.at (.int kx a), .at (.int ky b)] := by
    unfold evMinMax at hk
    split at hk
    · exact ⟨_, _, _, _, rfl⟩
    · simp at hk
  obtain ⟨kx, a, ky, b, rfl⟩ := h
  cases mx <;> exact leaf_lift hk

theorem evLen_cp {t : TypeId} {x : AV} : Cp (fun k => evLen P RT H t x k) := by
  intro Y k y hk
  unfold evLen at hk ⊢
  split at hk
  · split at hk <;> first | exact none_lift hk | exact leaf_lift hk
  · exact leaf_lift hk
  · exact leaf_lift hk
  · exact none_lift hk

theorem boundA_cp {x : Option AV} {d m : Nat} : Cp (fun k => boundA x d m k) := by
  intro Y k y hk
  unfold boundA at hk ⊢
  split at hk
  · exact leaf_lift hk
  · exact chk_lift hk leaf_lift
  · exact none_lift hk

theorem bound_lift {X : Type} {x : Option AV} {d m : Nat} {z : Nat → Option Y} {z' : Nat → Option X} {k : X → Option Y} (hk : boundA x d m z = some y) (h : ∀ n, z n = some y → ∃ x, z' n = some x ∧ k x = some y) :
    ∃ x', boundA x d m z' = some x' ∧ k x' = some y := by
  unfold boundA at hk ⊢
  split at hk
  · exact h _ hk
  · exact chk_lift hk (h _)
  · exact none_lift hk

theorem evSlice_cp {t : TypeId} {x : AV} {lo hi : Option AV} {mx : Bool} : Cp (fun k => evSlice P RT H t x lo hi mx k) := by
  intro Y k y hk
  unfold evSlice at hk ⊢
  split at hk
  · split at hk
    · refine gate_lift hk fun hk => bound_lift hk fun n hk => bound_lift hk fun n hk => ?_
      split at hk
      · exact leaf_lift hk
      · exact none_lift hk
    · exact none_lift hk
  · exact none_lift hk

theorem evR_cp {op : Op} : Cp (fun k => evR P RT H F op k) := by
  intro Y k y hk
  unfold evR at hk ⊢
  split at hk
  · exact leaf_lift hk
  · exact leaf_lift hk
  · split at hk
    · rename_i c hc
      cases c <;> exact leaf_lift hk
    · exact none_lift hk
  · split at hk
    · exact evLoad_cp _ _ _ hk
    · exact none_lift hk
  · split at hk <;> first | exact none_lift hk | exact leaf_lift hk
  · exact evBin_cp _ _ _ hk
  · exact evUn_cp _ _ _ hk
  · exact evConv_cp _ _ _ hk
  · exact evIface_cp _ _ _ hk
  · split at hk <;> first | exact none_lift hk | exact leaf_lift hk
  · exact evFieldAddr_cp _ _ _ hk
  · exact evField_cp _ _ _ hk
  · exact evIndexAddr_cp _ _ _ hk
  · exact evIndex_cp _ _ _ hk
  · exact evAssert_cp _ _ _ hk
  · exact evExtract_cp _ _ _ hk
  · exact evBuild_cp _ _ _ hk
  · exact evSlice_cp _ _ _ hk
  · split at hk
    · exact evMinMax_cp _ _ _ hk
    · exact evMinMax_cp _ _ _ hk
    · split at hk
      · exact evLen_cp _ _ _ hk
      · exact none_lift hk
    · exact none_lift hk
  · exact none_lift hk

theorem evLit_cp {op : Op} : Cp (fun k => evLit P F op k) := by
  intro Y k y hk
  unfold evLit at hk ⊢
  repeat' split at hk
  all_goals first | exact none_lift hk | exact gate_lift hk leaf_lift


/-! ### Matching -/
theorem pushI_lift {X : Type} {m : MS} {h : Nat} {n : Int} {z : MS → Option Y} {z' : MS → Option X} {k : X → Option Y} (hk : pushI m h n z = some y) (hz : ∀ m, z m = some y → ∃ x, z' m = some x ∧ k x = some y) :
    ∃ x, pushI m h n z' = some x ∧ k x = some y := gate_lift hk (hz _)
theorem pushB_lift {X : Type} {m : MS} {h : Nat} {n : Bool} {z : MS → Option Y} {z' : MS → Option X} {k : X → Option Y} (hk : pushB m h n z = some y) (hz : ∀ m, z m = some y → ∃ x, z' m = some x ∧ k x = some y) :
    ∃ x, pushB m h n z' = some x ∧ k x = some y := gate_lift hk (hz _)
theorem pushL_lift {X : Type} {m : MS} {h : Nat} {n : List Int} {z : MS → Option Y} {z' : MS → Option X} {k : X → Option Y} (hk : pushL m h n z = some y) (hz : ∀ m, z m = some y → ∃ x, z' m = some x ∧ k x = some y) :
    ∃ x, pushL m h n z' = some x ∧ k x = some y := gate_lift hk (hz _)
theorem pushR_lift {X : Type} {m : MS} {h : Nat} {n : List (List Int)} {z : MS → Option Y} {z' : MS → Option X} {k : X → Option Y} (hk : pushR m h n z = some y) (hz : ∀ m, z m = some y → ∃ x, z' m = some x ∧ k x = some y) :
    ∃ x, pushR m h n z' = some x ∧ k x = some y := gate_lift hk (hz _)

theorem chkI_lift {X : Type} {a b : Int} {z : Option Y} {z' : Option X} {k : X → Option Y} (hk : chkI a b z = some y) (h : z = some y → ∃ x, z' = some x ∧ k x = some y) :
    ∃ x, chkI a b z' = some x ∧ k x = some y := by
  rw [chkI_some] at hk
  obtain ⟨x, h1, h2⟩ := h hk.2
  exact ⟨x, chkI_some.2 ⟨hk.1, h1⟩, h2⟩
theorem chkB_lift {X : Type} {a b : Bool} {z : Option Y} {z' : Option X} {k : X → Option Y} (hk : chkB a b z = some y) (h : z = some y → ∃ x, z' = some x ∧ k x = some y) :
    ∃ x, chkB a b z' = some x ∧ k x = some y := by
  rw [chkB_some] at hk
  obtain ⟨x, h1, h2⟩ := h hk.2
  exact ⟨x, chkB_some.2 ⟨hk.1, h1⟩, h2⟩
theorem chkL_lift {X : Type} {a b : List Int} {z : Option Y} {z' : Option X} {k : X → Option Y} (hk : chkL a b z = some y) (h : z = some y → ∃ x, z' = some x ∧ k x = some y) :
    ∃ x, chkL a b z' = some x ∧ k x = some y := by
  rw [chkL_some] at hk
  obtain ⟨x, h1, h2⟩ := h hk.2
  exact ⟨x, chkL_some.2 ⟨hk.1, h1⟩, h2⟩
theorem chkR_lift {X : Type} {a b : List (List Int)} {z : Option Y} {z' : Option X} {k : X → Option Y} (hk : chkR a b z = some y) (h : z = some y → ∃ x, z' = some x ∧ k x = some y) :
    ∃ x, chkR a b z' = some x ∧ k x = some y := by
  rw [chkR_some] at hk
  obtain ⟨x, h1, h2⟩ := h hk.2
  exact ⟨x, chkR_some.2 ⟨hk.1, h1⟩, h2⟩

theorem chkN_lift {X : Type} {a b : Nat} {z : Option Y} {z' : Option X} {k : X → Option Y} (hk : chkN a b z = some y) (h : z = some y → ∃ x, z' = some x ∧ k x = some y) :
    ∃ x, chkN a b z' = some x ∧ k x = some y := by
  rw [chkN_some] at hk
  obtain ⟨x, h1, h2⟩ := h hk.2
  exact ⟨x, chkN_some.2 ⟨hk.1, h1⟩, h2⟩

theorem fixI_lift {X : Type} {Lc : Option Leaves} {m : MS} {h : Nat} {n : Int} {z : MS → Option Y} {z' : MS → Option X} {k : X → Option Y} (hk : fixI Lc m h n z = some y) (hz : ∀ m, z m = some y → ∃ x, z' m = some x ∧ k x = some y) :
    ∃ x, fixI Lc m h n z' = some x ∧ k x = some y := by
  cases Lc with
  | none => exact gate_lift hk (hz _)
  | some L => exact chkI_lift hk (hz _)
theorem fixB_lift {X : Type} {Lc : Option Leaves} {m : MS} {h : Nat} {n : Bool} {z : MS → Option Y} {z' : MS → Option X} {k : X → Option Y} (hk : fixB Lc m h n z = some y) (hz : ∀ m, z m = some y → ∃ x, z' m = some x ∧ k x = some y) :
    ∃ x, fixB Lc m h n z' = some x ∧ k x = some y := by
  cases Lc with
  | none => exact gate_lift hk (hz _)
  | some L => exact chkB_lift hk (hz _)
theorem fixL_lift {X : Type} {Lc : Option Leaves} {m : MS} {h : Nat} {n : List Int} {z : MS → Option Y} {z' : MS → Option X} {k : X → Option Y} (hk : fixL Lc m h n z = some y) (hz : ∀ m, z m = some y → ∃ x, z' m = some x ∧ k x = some y) :
    ∃ x, fixL Lc m h n z' = some x ∧ k x = some y := by
  cases Lc with
  | none => exact gate_lift hk (hz _)
  | some L => exact chkL_lift hk (hz _)
theorem fixR_lift {X : Type} {Lc : Option Leaves} {m : MS} {h : Nat} {n : List (List Int)} {z : MS → Option Y} {z' : MS → Option X} {k : X → Option Y} (hk : fixR Lc m h n z = some y) (hz : ∀ m, z m = some y → ∃ x, z' m = some x ∧ k x = some y) :
    ∃ x, fixR Lc m h n z' = some x ∧ k x = some y := by
  cases Lc with
  | none => exact gate_lift hk (hz _)
  | some L => exact chkR_lift hk (hz _)

theorem fixN_lift {X : Type} {Lc : Option Leaves} {m : MS} {h : Nat} {n : Nat} {z : MS → Option Y} {z' : MS → Option X} {k : X → Option Y} (hk : fixN Lc m h n z = some y) (hz : ∀ m, z m = some y → ∃ x, z' m = some x ∧ k x = some y) :
    ∃ x, fixN Lc m h n z' = some x ∧ k x = some y := by
  cases Lc with
  | none => exact gate_lift hk (hz _)
  | some L => exact chkN_lift hk (hz _)

theorem bindView_lift {X : Type} {m : MS} {t : Nat} {v : View} {z : MS → Option Y} {z' : MS → Option X} {k : X → Option Y} (hk : bindView m t v z = some y) (hz : ∀ m, z m = some y → ∃ x, z' m = some x ∧ k x = some y) :
    ∃ x, bindView m t v z' = some x ∧ k x = some y := by
  unfold bindView at hk ⊢
  split at hk
  · exact hz _ hk
  · split at hk
    · exact gate_lift hk (hz _)
    · exact none_lift hk
  · exact none_lift hk

theorem roA_lift {X : Type} {kd : IntKind} {a : Atom} {z : List Int → Option Nat → Option Y} {z' : List Int → Option Nat → Option X} {k : X → Option Y} (hk : roA H kd a z = some y)
    (hz : ∀ xs l, z xs l = some y → ∃ x, z' xs l = some x ∧ k x = some y) : ∃ x, roA H kd a z' = some x ∧ k x = some y := by
  unfold roA at hk ⊢
  split at hk
  · exact gate_lift hk (hz _ _)
  · exact hz _ _ hk
  all_goals first
    | exact none_lift hk
    | (split at hk
       · exact gate_lift hk (hz _ _)
       · exact none_lift hk)

theorem mClo_lift {X : Type} {z : MS → Option Y} {z' : MS → Option X} {k : X → Option Y} (hz : ∀ m, z m = some y → ∃ x, z' m = some x ∧ k x = some y) :
    ∀ {ts : List (Nat × Nat)} {cs : List Atom} {m : MS}, mClo ts cs m z = some y → ∃ x, mClo ts cs m z' = some x ∧ k x = some y
  | [], [], m, hk => hz _ hk
  | (t, off) :: ts, c :: cs, m, hk => by
    cases c with
    | ptr id off' =>
      simp only [mClo] at hk ⊢
      exact gate_lift hk fun hk => bindView_lift hk fun m hk => mClo_lift hz hk
    | _ => simp [mClo] at hk
  | [], _ :: _, _, hk => by simp [mClo] at hk
  | _ :: _, [], _, hk => by simp [mClo] at hk

theorem mAtom_lift {X : Type} {Lc : Option Leaves} {p : Pat} {a : Atom} {m : MS} {z : MS → Option Y} {z' : MS → Option X} {k : X → Option Y} (hk : mAtom H Lc p a m z = some y)
    (hz : ∀ m, z m = some y → ∃ x, z' m = some x ∧ k x = some y) : ∃ x, mAtom H Lc p a m z' = some x ∧ k x = some y := by
  unfold mAtom at hk ⊢
  split at hk
  all_goals first
    | exact hz _ hk
    | exact pushB_lift hk hz
    | exact gate_lift hk fun hk => pushI_lift hk hz
    | exact fixB_lift hk hz
    | exact gate_lift hk fun hk => fixI_lift hk hz
    | exact gate_lift hk fun hk => bindView_lift hk hz
    | exact roA_lift hk fun xs l hk => pushL_lift hk hz
    | exact roA_lift hk fun xs l hk => fixL_lift hk hz
    | exact fixN_lift hk fun m hk => fixN_lift hk fun m hk => bindView_lift hk hz
    | exact gate_lift hk fun hk => mClo_lift hz hk
    | exact gate_lift hk (hz _)
    | exact none_lift hk

theorem mAtoms_lift {X : Type} {Lc : Option Leaves} {z : MS → Option Y} {z' : MS → Option X} {k : X → Option Y} (hz : ∀ m, z m = some y → ∃ x, z' m = some x ∧ k x = some y) :
    ∀ {ps : List Pat} {as : List Atom} {m : MS}, mAtoms H Lc ps as m z = some y → ∃ x, mAtoms H Lc ps as m z' = some x ∧ k x = some y
  | [], [], m, hk => hz _ hk
  | p :: ps, a :: as, m, hk => by
    simp only [mAtoms] at hk ⊢
    exact mAtom_lift hk fun m hk => mAtoms_lift hz hk
  | [], _ :: _, _, hk => by simp [mAtoms] at hk
  | _ :: _, [], _, hk => by simp [mAtoms] at hk

theorem mTup_lift {X : Type} {Lc : Option Leaves} {z : MS → Option Y} {z' : MS → Option X} {k : X → Option Y} (hz : ∀ m, z m = some y → ∃ x, z' m = some x ∧ k x = some y) :
    ∀ {ps : List (Bool × List Pat)} {as : List (Bool × List Atom)} {m : MS}, mTup H Lc ps as m z = some y → ∃ x, mTup H Lc ps as m z' = some x ∧ k x = some y
  | [], [], m, hk => hz _ hk
  | (g, p) :: ps, (g', a) :: as, m, hk => by
    simp only [mTup] at hk ⊢
    exact gate_lift hk fun hk => mAtoms_lift (fun m hk => mTup_lift hz hk) hk
  | [], _ :: _, _, hk => by simp [mTup] at hk
  | _ :: _, [], _, hk => by simp [mTup] at hk

theorem mAV_lift {X : Type} {Lc : Option Leaves} {p : VPat} {a : AV} {m : MS} {z : MS → Option Y} {z' : MS → Option X} {k : X → Option Y} (hk : mAV H Lc p a m z = some y)
    (hz : ∀ m, z m = some y → ∃ x, z' m = some x ∧ k x = some y) : ∃ x, mAV H Lc p a m z' = some x ∧ k x = some y := by
  unfold mAV at hk ⊢
  split at hk
  · exact hz _ hk
  · exact mAtom_lift hk hz
  · exact mAtoms_lift hz hk
  · exact mTup_lift hz hk
  · exact none_lift hk

theorem mAVs_lift {X : Type} {Lc : Option Leaves} {z : MS → Option Y} {z' : MS → Option X} {k : X → Option Y} (hz : ∀ m, z m = some y → ∃ x, z' m = some x ∧ k x = some y) :
    ∀ {ps : List VPat} {as : List AV} {m : MS}, mAVs H Lc ps as m z = some y → ∃ x, mAVs H Lc ps as m z' = some x ∧ k x = some y
  | [], [], m, hk => hz _ hk
  | p :: ps, a :: as, m, hk => by
    simp only [mAVs] at hk ⊢
    exact mAV_lift hk fun m hk => mAVs_lift hz hk
  | [], _ :: _, _, hk => by simp [mAVs] at hk
  | _ :: _, [], _, hk => by simp [mAVs] at hk

theorem mBlk_lift {X : Type} {Lc : Option Leaves} {p : BPat} {v : View} {m : MS} {z : MS → Option Y} {z' : MS → Option X} {k : X → Option Y} (hk : mBlk H Lc p v m z = some y)
    (hz : ∀ m, z m = some y → ∃ x, z' m = some x ∧ k x = some y) : ∃ x, mBlk H Lc p v m z' = some x ∧ k x = some y := by
  unfold mBlk at hk ⊢
  split at hk
  all_goals first
    | exact none_lift hk
    | exact pushL_lift hk hz
    | exact fixL_lift hk hz
    | (split at hk
       · exact gate_lift hk fun hk => mAtoms_lift hz hk
       · exact none_lift hk)
    | (split at hk
       · exact gate_lift hk fun hk => pushL_lift hk hz
       · exact none_lift hk)
    | (split at hk
       · exact gate_lift hk fun hk => fixL_lift hk hz
       · exact none_lift hk)
    | (split at hk
       · exact gate_lift hk fun hk => pushR_lift hk hz
       · split at hk
         · exact gate_lift hk fun hk => pushR_lift hk hz
         · exact none_lift hk
       · exact none_lift hk)
    | (split at hk
       · exact gate_lift hk fun hk => fixR_lift hk hz
       · exact none_lift hk)
    | (split at hk
       · exact gate_lift hk fun hk => fixR_lift hk fun m hk => fixN_lift hk fun m hk => bindView_lift hk hz
       · exact none_lift hk)

theorem mBlks_lift {X : Type} {Lc : Option Leaves} {z : MS → Option Y} {z' : MS → Option X} {k : X → Option Y} (hz : ∀ m, z m = some y → ∃ x, z' m = some x ∧ k x = some y) :
    ∀ {ps : List (Nat × BPat)} {m : MS}, mBlks H Lc ps m z = some y → ∃ x, mBlks H Lc ps m z' = some x ∧ k x = some y
  | [], m, hk => hz _ hk
  | (t, p) :: ps, m, hk => by
    simp only [mBlks] at hk ⊢
    split at hk
    · exact mBlks_lift hz hk
    · split at hk
      · exact mBlk_lift hk fun m hk => mBlks_lift hz hk
      · exact none_lift hk

theorem partsIn_lift {X : Type} {z : Option Y} {z' : Option X} {k : X → Option Y} (hz : z = some y → ∃ x, z' = some x ∧ k x = some y) :
    ∀ {vs : List View}, partsIn H vs z = some y → ∃ x, partsIn H vs z' = some x ∧ k x = some y
  | [], hk => hz hk
  | v :: vs, hk => by
    cases v with
    | part id lo n =>
      simp only [partsIn] at hk ⊢
      split at hk
      · exact chk_lift hk fun hk => partsIn_lift hz hk
      · exact none_lift hk
    | _ =>
      simp only [partsIn] at hk ⊢
      exact partsIn_lift hz hk

/-- A call's outcome. -/
theorem callSpec_cp {f : FuncId} {s : Spec} (hok : CallOK P f s) {N nx : Nat} {args : List AV} {k : AV → Heap → Nat → Option Y} (hk : callSpec N s args H nx k = some y) :
    ∃ x : AV × Heap × Nat, callSpec N s args H nx (fun v H n => some (v, H, n)) = some x ∧ k x.1 x.2.1 x.2.2 = some y := by
  unfold callSpec at hk ⊢
  refine mAVs_lift (k := fun x : AV × Heap × Nat => k x.1 x.2.1 x.2.2) (fun m hk => mBlks_lift (fun m hk => gate_lift hk fun hk => partsIn_lift (fun hk => ?_) hk) hk) hk
  rw [hok.cps, obind_some] at hk
  obtain ⟨L, h1, h2⟩ := hk
  rw [hok.cps, h1]
  exact ⟨_, rfl, h2⟩

/-- The outcome of an operation that turns memory. -/
theorem evC_cp (hC : CfgOK C) {nx : Nat} {op : Op} {k : KC Y} (hk : evC C noInl H nx F op k = some y) :
    ∃ x : AV × Heap × Nat, evC C noInl H nx F op (fun v H n => some (v, H, n)) = some x ∧ k x.1 x.2.1 x.2.2 = some y := by
  unfold evC at hk ⊢
  split at hk
  · split at hk
    · exact ⟨_, rfl, hk⟩
    · exact none_lift hk
  · exact gate_lift (k := fun x : AV × Heap × Nat => k x.1 x.2.1 x.2.2) hk fun hk => ⟨_, rfl, hk⟩
  · unfold buildA at hk ⊢
    repeat' split at hk
    all_goals first
      | exact none_lift hk
      | exact gate_lift (k := fun x : AV × Heap × Nat => k x.1 x.2.1 x.2.2) hk fun hk => ⟨_, rfl, hk⟩
      | exact gate_lift (k := fun x : AV × Heap × Nat => k x.1 x.2.1 x.2.2) hk fun hk => gate_lift hk fun hk => ⟨_, rfl, hk⟩
  · unfold makeA at hk ⊢
    split at hk
    · split at hk
      · split at hk
        · exact gate_lift (k := fun x : AV × Heap × Nat => k x.1 x.2.1 x.2.2) hk fun hk => chk_lift hk fun hk => ⟨_, rfl, hk⟩
        · exact none_lift hk
      · exact gate_lift (k := fun x : AV × Heap × Nat => k x.1 x.2.1 x.2.2) hk fun hk => chk_lift hk fun hk => ⟨_, rfl, hk⟩
      · exact none_lift hk
    · exact none_lift hk
  · split at hk
    · unfold storeA at hk ⊢
      split at hk
      · split at hk
        · exact gate_lift (k := fun x : AV × Heap × Nat => k x.1 x.2.1 x.2.2) hk fun hk => ⟨_, rfl, hk⟩
        · exact none_lift hk
      · split at hk
        · exact gate_lift (k := fun x : AV × Heap × Nat => k x.1 x.2.1 x.2.2) hk fun hk => ⟨_, rfl, hk⟩
        · split at hk
          · exact gate_lift (k := fun x : AV × Heap × Nat => k x.1 x.2.1 x.2.2) hk fun hk => ⟨_, rfl, hk⟩
          · exact none_lift hk
        · exact none_lift hk
      · exact none_lift hk
    · exact none_lift hk
  · split at hk
    · unfold evCall at hk ⊢
      split at hk
      · split at hk
        · refine gate_lift (k := fun x : AV × Heap × Nat => k x.1 x.2.1 x.2.2) hk fun hk => ?_
          rw [obind_some] at hk
          obtain ⟨b, h1, h2⟩ := hk
          rw [h1]
          exact ⟨_, rfl, h2⟩
        split at hk
        · rename_i s hs
          exact callSpec_cp (hC.specs _ (pick_mem hs)).1 hk
        · split at hk
          · unfold evExt at hk ⊢
            split at hk
            · exact chk_lift (k := fun x : AV × Heap × Nat => k x.1 x.2.1 x.2.2) hk fun hk => ⟨_, rfl, hk⟩
            · exact none_lift hk
          · simp [noInl] at hk
      · exact none_lift hk
    · unfold evInv at hk ⊢
      split at hk
      · split at hk
        · unfold evCall at hk ⊢
          simp only at hk ⊢
          split at hk
          · refine gate_lift (k := fun x : AV × Heap × Nat => k x.1 x.2.1 x.2.2) hk fun hk => ?_
            rw [obind_some] at hk
            obtain ⟨b, h1, h2⟩ := hk
            rw [h1]
            exact ⟨_, rfl, h2⟩
          split at hk
          · rename_i s hs
            exact callSpec_cp (hC.specs _ (pick_mem hs)).1 hk
          · split at hk
            · unfold evExt at hk ⊢
              split at hk
              · exact chk_lift (k := fun x : AV × Heap × Nat => k x.1 x.2.1 x.2.2) hk fun hk => ⟨_, rfl, hk⟩
              · exact none_lift hk
            · simp [noInl] at hk
        · exact none_lift hk
      · exact none_lift hk
    · split at hk
      · split at hk
        · unfold appendR at hk ⊢
          split at hk
          · split at hk
            · split at hk
              · refine gate_lift (k := fun x : AV × Heap × Nat => k x.1 x.2.1 x.2.2) hk fun hk => ?_
                split at hk
                · exact ⟨_, rfl, hk⟩
                · split at hk
                  · exact gate_lift (k := fun x : AV × Heap × Nat => k x.1 x.2.1 x.2.2) hk fun hk => chk_lift hk fun hk => ⟨_, rfl, hk⟩
                  · exact none_lift hk
                · exact none_lift hk
              · exact none_lift hk
            · exact none_lift hk
          · exact none_lift hk
        · unfold appendA contA at hk ⊢
          repeat' split at hk
          all_goals first
            | exact none_lift hk
            | exact gate_lift (k := fun x : AV × Heap × Nat => k x.1 x.2.1 x.2.2) hk fun hk => roA_lift hk fun xs l hk => chk_lift hk fun hk => ⟨_, rfl, hk⟩
            | exact gate_lift (k := fun x : AV × Heap × Nat => k x.1 x.2.1 x.2.2) hk fun hk => none_lift hk
            | exact gate_lift (k := fun x : AV × Heap × Nat => k x.1 x.2.1 x.2.2) hk fun hk => chk_lift hk fun hk => chk_lift hk fun hk => ⟨_, rfl, hk⟩
      · exact none_lift hk
    · split at hk
      · unfold copyA contA at hk ⊢
        repeat' split at hk
        all_goals first
          | exact none_lift hk
          | exact gate_lift (k := fun x : AV × Heap × Nat => k x.1 x.2.1 x.2.2) hk fun hk => roA_lift hk fun xs l hk => ⟨_, rfl, hk⟩
          | exact gate_lift (k := fun x : AV × Heap × Nat => k x.1 x.2.1 x.2.2) hk fun hk => roA_lift hk fun xs l hk => chk_lift hk fun hk => ⟨_, rfl, hk⟩
          | exact gate_lift (k := fun x : AV × Heap × Nat => k x.1 x.2.1 x.2.2) hk fun hk => none_lift hk
      · exact none_lift hk
    · exact none_lift hk
  · exact none_lift hk


/-! ### An operation looks at its own operands only -/
theorem partsA_congr {F F' : Fr} : ∀ {l : List (Nat × Operand)}, (∀ q ∈ l, evOpd F q.2 = evOpd F' q.2) → partsA F l = partsA F' l
  | [], _ => rfl
  | (i, x) :: r, h => by
    simp only [partsA]
    rw [h (i, x) (by simp), partsA_congr fun q hq => h q (by simp [hq])]

theorem argsA_congr {F F' : Fr} : ∀ {l : List Operand}, (∀ x ∈ l, evOpd F x = evOpd F' x) → argsA F l = argsA F' l
  | [], _ => rfl
  | x :: r, h => by
    simp only [argsA]
    rw [h x (by simp), argsA_congr fun q hq => h q (by simp [hq])]

theorem parts_ops {F F' : Fr} {ps : Array (Nat × Operand)} (h : ∀ x ∈ (ps.toList.map (·.2)).toArray, evOpd F x = evOpd F' x) : partsA F ps.toList = partsA F' ps.toList :=
  partsA_congr fun q hq => h q.2 (by simpa using ⟨q.1, by simpa using hq⟩)

theorem evR_congr {F F' : Fr} {op : Op} {k : AV → Option Y} (h : ∀ x ∈ op.operands, evOpd F x = evOpd F' x) : evR P RT H F op k = evR P RT H F' op k := by
  cases op with
  | move x => simp only [evR, h x (by simp [Op.operands])]
  | assign x => simp only [evR, h x (by simp [Op.operands])]
  | pick c a b => simp only [evR, h c (by simp [Op.operands]), h a (by simp [Op.operands]), h b (by simp [Op.operands])]
  | load t x => simp only [evR, h x (by simp [Op.operands])]
  | nilCheck x => simp only [evR, h x (by simp [Op.operands])]
  | binOp op t x z t' => simp only [evR, h x (by simp [Op.operands]), h z (by simp [Op.operands])]
  | unOp op t x => simp only [evR, h x (by simp [Op.operands])]
  | convert s d x => simp only [evR, h x (by simp [Op.operands])]
  | makeInterface t x => simp only [evR, h x (by simp [Op.operands])]
  | makeFunc fn first cap =>
    have : argsA F cap.toList = argsA F' cap.toList := argsA_congr fun x hx => h x (by simp [Op.operands]; right; simpa using hx)
    cases fn <;> simp only [evR, this]
  | fieldAddr t x f => simp only [evR, h x (by simp [Op.operands])]
  | field t x f => simp only [evR, h x (by simp [Op.operands])]
  | indexAddr t x ix => simp only [evR, h x (by simp [Op.operands]), h ix (by simp [Op.operands])]
  | index t x ix => simp only [evR, h x (by simp [Op.operands]), h ix (by simp [Op.operands])]
  | typeAssert x t t' ok => simp only [evR, h x (by simp [Op.operands])]
  | extract x i => simp only [evR, h x (by simp [Op.operands])]
  | build t ps => simp only [evR, parts_ops h]
  | slice t x lo hi mx =>
    have h1 : evOpd F x = evOpd F' x := h x (by simp [Op.operands])
    have h2 : optA F lo = optA F' lo := by
      cases lo with
      | none => rfl
      | some z => simp only [optA, h z (by simp [Op.operands])]
    have h3 : optA F hi = optA F' hi := by
      cases hi with
      | none => rfl
      | some z => simp only [optA, h z (by simp [Op.operands])]
    simp only [evR, h1, h2, h3]
  | call c =>
    have h1 : argsA F c.args.toList = argsA F' c.args.toList := argsA_congr fun x hx => h x (by simp [Op.operands, Call.operands]; right; simpa using hx)
    simp only [evR, h1]
  | _ => rfl

theorem evLit_congr {F F' : Fr} {op : Op} {k : AV → Option Y} (h : ∀ x ∈ op.operands, evOpd F x = evOpd F' x) : evLit P F op k = evLit P F' op k := by
  cases op with
  | buildSlice t n ps => simp only [evLit, parts_ops h]
  | _ => rfl

theorem evC_congr {F F' : Fr} {inl : Inl} {nx : Nat} {op : Op} {k : KC Y} (h : ∀ x ∈ op.operands, evOpd F x = evOpd F' x) : evC C inl H nx F op k = evC C inl H nx F' op k := by
  cases op with
  | box e x => simp only [evC, h x (by simp [Op.operands])]
  | buildSlice t n ps => simp only [evC, parts_ops h]
  | makeSlice t l c => simp only [evC, h l (by simp [Op.operands]), h c (by simp [Op.operands])]
  | store t x z => simp only [evC, h x (by simp [Op.operands]), h z (by simp [Op.operands])]
  | call c =>
    have h1 : argsA F c.args.toList = argsA F' c.args.toList := argsA_congr fun x hx => h x (by simp [Op.operands, Call.operands]; right; simpa using hx)
    simp only [evC, h1]
    split
    · rename_i f hf
      rw [h f (by simp [Op.operands, Call.operands, hf])]
    · rename_i x n hf
      rw [h x (by simp [Op.operands, Call.operands, hf])]
    · rfl
    · rfl
    · rfl
  | _ => rfl

theorem fixedA_get {x : AV} (h : fixedA x = true) : (∃ k xs, x = .at (.roi k xs)) ∨ (∃ t, x = .at (.ror t)) ∨ (∃ cs, x = .at (.rop cs)) ∨ x = .at .nils := by
  unfold fixedA at h
  split at h
  · exact Or.inl ⟨_, _, rfl⟩
  · exact Or.inr (Or.inl ⟨_, rfl⟩)
  · exact Or.inr (Or.inr (Or.inl ⟨_, rfl⟩))
  · exact Or.inr (Or.inr (Or.inr rfl))
  · simp at h

/-- What does not look into memory does not. -/
theorem evR_blind {H' : Heap} {o : Oper} {k : AV → Option Y} (h : looks F o = false) : evR P RT H F o.op k = evR P RT H' F o.op k := by
  unfold looks at h
  split at h
  · rename_i t x ho
    simp only [ho, evR]
    rcases fixedA_get (x := evOpd F x) (by simpa using h) with ⟨kd, xs, hx⟩ | ⟨tg, hx⟩ | ⟨cs, hx⟩ | hx <;> simp only [hx, evLoad]
  · rename_i t x ix ho
    simp only [ho, evR]
    rcases fixedA_get (x := evOpd F x) (by simpa using h) with ⟨kd, xs, hx⟩ | ⟨tg, hx⟩ | ⟨cs, hx⟩ | hx <;> (simp only [hx]; unfold evIndexAddr; cases P.underlying t with
      | none => rfl
      | some d => cases d <;> first | rfl | (cases evOpd F ix with
        | «at» z => cases z <;> rfl
        | _ => rfl))
  · rename_i t x lo hi mx ho
    simp only [ho, evR]
    rcases fixedA_get (x := evOpd F x) (by simpa using h) with ⟨kd, xs, hx⟩ | ⟨tg, hx⟩ | ⟨cs, hx⟩ | hx <;> (simp only [hx]; unfold evSlice; cases P.underlying t with
      | none => rfl
      | some d => cases d <;> first | rfl | (cases mx.isSome <;> rfl))
  · rename_i c ho
    simp only [ho, evR]
    split at h
    · rename_i hc
      simp only [hc]
      split at h
      · rename_i x hx
        split
        · rename_i x' t heq _
          rw [hx] at heq
          simp only [List.cons.injEq, and_true] at heq
          subst heq
          rcases fixedA_get (x := x) (by simpa using h) with ⟨kd, xs, hx⟩ | ⟨tg, hx⟩ | ⟨cs, hx⟩ | hx <;> (simp only [hx]; unfold evLen; cases P.underlying t with
            | none => rfl
            | some d => cases d <;> rfl)
        · rfl
      · simp at h
    · rename_i hne
      split
      · rfl
      · rfl
      · rename_i hc; exact absurd hc hne
      · rfl
  · rename_i h1 h2 h3 h4
    cases ho : o.op <;> first | exact absurd ho (h1 _ _) | exact absurd ho (h2 _ _ _) | exact absurd ho (h3 _ _ _ _ _) | exact absurd ho (h4 _) | rfl | (rename_i fn fs cs; cases fn <;> rfl)

/-- A frame, of which but these slots are known. -/
noncomputable def only (l : Array Operand) (F : Fr) : Fr := fun t => open Classical in if Operand.tmp t ∈ l then F t else .at .unk

theorem only_opd {l : Array Operand} {F : Fr} {x : Operand} (hx : x ∈ l) : evOpd (only l F) x = evOpd F x := by
  cases x with
  | tmp t => simp only [evOpd, only]; rw [if_pos hx]
  | _ => rfl

theorem only_rf {l : Array Operand} (h : ∀ t, Operand.tmp t ∈ l → RV RT E (F t) (a.tmps.getD t undef)) : RF RT E (only l F) a := by
  intro t
  simp only [only]
  split
  · rename_i ht; exact h t ht
  · exact R.unk _

end Go.Eng
