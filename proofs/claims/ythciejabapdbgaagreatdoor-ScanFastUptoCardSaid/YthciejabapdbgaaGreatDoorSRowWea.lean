/- An argument that says what befalls a disk: fates and edits; the form's own reach. Conditions: none beyond what each lemma states. -/
import Derived.Test.YthciejabapdbgaaGreatDoorSRowCalls
import Derived.Test.YthciejabapdbgaaGreatDoorKh
set_option linter.unusedVariables false
set_option linter.unusedSimpArgs false
namespace Go.Proofs.YthciejabapdbgaaGreatDoor
open Go.ChangeShapes Go.WideShapes Go.ChangeAt Go.RowKit Go.Deep
section
variable {H : Type} {P : Program} {B : Nat}
end
section
variable {H : Type} {enc : TypeId × Value → H} {w : World} {base : Nat} {spare : Nat → Bool} {held : Bool} {fuel : Nat} {cs : List Value} {x : DataW H × List MemPlace}
theorem fate_get : ∀ (fs : List FateP) (k : Nat) (u : Value), (fs.flatMap fateCells)[k]? = some u → ∃ i r f, k = i * 4 + r ∧ fs[i]? = some f ∧ (fateCells f)[r]? = some u
  | [], k, u, h => by simp at h
  | f :: fs, k, u, h => by
    rw [List.flatMap_cons] at h
    by_cases hk : k < (fateCells f).length
    · rw [List.getElem?_append_left hk] at h
      exact ⟨0, k, f, by omega, rfl, h⟩
    rw [List.getElem?_append_right (by omega)] at h; obtain ⟨i, r, g, h1, h2, h3⟩ := fate_get fs _ u h; have hl : (fateCells f).length = 4 := rfl
    exact ⟨i + 1, r, g, by omega, by simpa using h2, h3⟩
end
end Go.Proofs.YthciejabapdbgaaGreatDoor
