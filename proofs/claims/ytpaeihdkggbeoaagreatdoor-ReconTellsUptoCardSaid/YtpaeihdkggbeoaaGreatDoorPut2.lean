/- tree.Put: the walk. Conditions: what the contract states. -/
import Derived.Test.YtpaeihdkggbeoaaGreatDoorPut
namespace Go.Proofs.YtpaeihdkggbeoaaGreatDoor
open Go.RowKit Go.Op

theorem put_bad1 {t : List Node} {path : ByteArray} {v : List Node} (h : (okTree t && okVal v) = false) : putR t path v = ([], 60) := by unfold putR; rw [h]; rfl
theorem put_bad2 {t : List Node} {path : ByteArray} {v : List Node} (h : (okTree t && okVal v) = true) (h2 : okPath (str path) = false) : putR t path v = ([], 11) := by unfold putR; rw [if_pos h, h2]; rfl
theorem put_bad3 {t : List Node} {path : ByteArray} {v : List Node} (h : (okTree t && okVal v) = true) (h2 : okPath (str path) = true) (h3 : (v.isEmpty || isDir t (parent (str path))) = false) : putR t path v = ([], 62) := by unfold putR; rw [if_pos h, if_pos h2, h3]; rfl
theorem put_rest {t : List Node} {path : ByteArray} {v : List Node} (h : (okTree t && okVal v) = true) (h2 : okPath (str path) = true) (h3 : (v.isEmpty || isDir t (parent (str path))) = true) : putR t path v = putC t path v := by unfold putR putC; rw [if_pos h, if_pos h2, if_pos h3]
theorem okVal_len {v : List Node} (h : okVal v = true) : v.length ≤ 1000 := by
  rcases Nat.lt_or_ge 1000 v.length with h1 | h1
  · rw [okVal_bad_len h1] at h; cases h
  · exact h1
theorem PutP.mono {r : List Node × Int} {w w0 : World} (ho : Off [] w w0) {e : Ending} {w' : World} (h : PutP r w0 e w') : PutP r w e w' := by
  obtain ⟨x, he, hown, ho2⟩ := h
  exact ⟨x, he, own_base hown ho.size, ho.trans_nil ho2⟩
end Go.Proofs.YtpaeihdkggbeoaaGreatDoor
