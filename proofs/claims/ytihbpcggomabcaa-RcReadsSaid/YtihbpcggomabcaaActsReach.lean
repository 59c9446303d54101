/-
  How long the tables in a list of calls are at most (the claims' own reach).
  Conditions: none.
-/
import Derived.Test.YtihbpcggomabcaaActsRow
import Derived.SizedLaws
set_option linter.unusedSimpArgs false
set_option linter.unusedVariables false
namespace Go.Proofs.Ytihbpcggomabcaa.row
open Go.ChangeShapes Go.WideShapes Go.ChangeAt Go.RowKit Go.Eng
variable {H : Type}

theorem weightsAll_mem {P : Program} {e : TypeId} : ∀ {l : List (DataW H)} {d : DataW H}, d ∈ l → ∀ n ∈ d.weights P e, n ∈ DataW.weightsAll P e l
  | x :: r, d, hd, n, hn => by
    simp only [DataW.weightsAll, List.mem_append]
    rcases List.mem_cons.1 hd with rfl | hd
    · exact Or.inl hn
    · exact Or.inr (weightsAll_mem hd n hn)

theorem acts_reach {ts : List TypeId} {ds : List (DataW H)} (h : (DataW.weightsEach Try.prog ts ds).all (· ≤ reachBytes) = true) {j : Nat} {d : DataW H} (ht : ts[j]? = some 23) (hd : ds[j]? = some d) {acts : List Rc.Act3}
    (hx : (d = .nil ∧ acts = []) ∨ ∃ es sp, d = .slice es sp ∧ ∀ a ∈ acts, ∃ d ∈ es, actD d a) : ∀ a ∈ acts, a.t.length ≤ 17592186043904 := by
  intro a ha
  rcases hx with ⟨_, rfl⟩ | ⟨es, sp, rfl, hx⟩
  · simp at ha
  obtain ⟨e, he, d0, d1, d2, d3, rfl, ht3⟩ := hx a ha
  rcases ht3 with ⟨_, h0⟩ | ⟨sp3, rfl⟩
  · simp [h0]
  have m : (a.t.length + sp3.length) * Try.prog.bytesOf 3 ∈ DataW.weightsEach Try.prog ts ds := by
    refine DataW.weights_mem_each ht hd _ ?_
    simp only [DataW.weights, Try.underlying23]
    refine List.mem_cons_of_mem _ (List.mem_append_left _ (weightsAll_mem he _ ?_))
    simp [DataW.weights, DataW.weightsEach, Try.underlying30, Try.underlying27]
  have h8 := of_decide_eq_true (List.all_eq_true.1 h _ m)
  have b3 : Try.prog.bytesOf 3 = 8 := by kernel_rfl
  rw [b3] at h8
  simp only [reachBytes] at h8
  omega
end Go.Proofs.Ytihbpcggomabcaa.row
