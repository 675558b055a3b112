/- tree.Right: the walk. Conditions: what each contract states. -/
import Derived.Test.YtpaeihdkggbeoaaGreatDoorBackLaw
import Derived.Test.YtpaeihdkggbeoaaGreatDoorTDif
namespace Go.Proofs.YtpaeihdkggbeoaaGreatDoor
open Go.RowKit Go.Op

theorem okVal_bad_len {v : List Node} (h : 1000 < v.length) : okVal v = false := by
  cases v with
  | nil => simp at h
  | cons x r => unfold okVal; rw [decide_eq_false (by omega)]; rfl
theorem okVal_eq {x : Node} {r : List Node} (hl : (x :: r).length ≤ 1000) : okVal (x :: r) = (decide (x.p = []) && (rightN x && (decide (r = []) || decide (x.kind = 2) && okTree r))) := by
  unfold okVal; rw [decide_eq_true hl]; exact Bool.true_and _
end Go.Proofs.YtpaeihdkggbeoaaGreatDoor
