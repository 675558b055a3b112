/- An argument that is a fate. Conditions: none beyond what each lemma states. -/
import Derived.Test.YtoicjadioiomkaaGreatDoorSRowKit
import Derived.Test.YtoicjadioiomkaaGreatDoorJe
set_option linter.unusedVariables false
set_option linter.unusedSimpArgs false
namespace Go.Proofs.YtoicjadioiomkaaGreatDoor
open Go.ChangeShapes Go.WideShapes Go.ChangeAt Go.RowKit Go.Deep
set_option maxRecDepth 100000 in
theorem open_fate {H : Type} {enc : TypeId × Value → H} {w : World} {base : Nat} {spare : Nat → Bool} {held : Bool} {fuel : Nat} {cs : List Value} {x : DataW H × List MemPlace} (h : DataW.trod enc Tryz.prog w base spare held fuel 106 cs = some x) :
    ∃ f : FateP, cs = [.int .i64 f.at_, .int .i64 f.what, .int .i64 f.keep, .int .i64 f.torn] := by
  obtain ⟨ys, n, -, -, hlen, hys, hf⟩ := DataW.trod_struct Tryz.underlying106 h; have hl : cs.length = 4 := hlen.trans (by kernel_rfl)
  have hyl : ys.length = 4 := hys
  have h0 := hf 0 _ rfl; have h1 := hf 1 _ rfl; have h2 := hf 2 _ rfl; have h3 := hf 3 _ rfl; have g : ∀ (v : Value) (i : Nat), i < 4 → DataW.trod enc Tryz.prog w base spare held n 3 [v] = ys[i]? → ∃ k, v = .int .i64 k := fun v i hi hh => by
    rw [List.getElem?_eq_getElem (by omega)] at hh; obtain ⟨k, e, -, -⟩ := DataW.trod_int Tryz.underlying3 hh; simp only [List.cons.injEq, and_true] at e; exact ⟨k, e⟩
  match cs, hl with
  | [a, b, c, d], _ =>
    obtain ⟨k0, rfl⟩ := g a 0 (by decide) h0; obtain ⟨k1, rfl⟩ := g b 1 (by decide) h1; obtain ⟨k2, rfl⟩ := g c 2 (by decide) h2; obtain ⟨k3, rfl⟩ := g d 3 (by decide) h3; exact ⟨⟨k0, k1, k2, k3⟩, rfl⟩
end Go.Proofs.YtoicjadioiomkaaGreatDoor
