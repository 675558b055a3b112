/- hawserlaw06.awake: a closed walk. Conditions: the tables of unicode/utf8 are laid. -/
import Derived.Test.YtpaeihdkggbeoaaGreatDoorTLaw
namespace Go.Proofs.YtpaeihdkggbeoaaGreatDoor
open Go.RowKit Go.Op

theorem row_blk {w : World} {g ty : Nat} {cs : Array Value} {t : List Node} (h : Blk w g ty cs)
    (hcs : ∀ (i : Nat) (n : Node), t[i]? = some n → cs[i * 4]? = some (.string n.path) ∧ cs[i * 4 + 1]? = some (.int .i64 n.kind) ∧ cs[i * 4 + 2]? = some (.string n.data) ∧ cs[i * 4 + 3]? = some (.int .i64 n.mode)) :
    Row w (some ⟨g, 0, none⟩) t := fun _ => by
  refine ⟨_, rfl, h.lt, fun i n hi => ?_⟩
  obtain ⟨h0, h1, h2, h3⟩ := hcs i n hi
  rw [addr_add]
  exact ⟨(h.cell _).trans h0, (h.cell _).trans h1, (h.cell _).trans h2, (h.cell _).trans h3⟩
def awT : List Node := [⟨⟨#[97]⟩, 2, ⟨#[]⟩, 0⟩, ⟨⟨#[97, 47, 98]⟩, 1, ⟨#[120]⟩, 0⟩]
theorem awT_ok : okTree awT = true := by decide +kernel
theorem awT_names : namesR awT [97] = [⟨#[98]⟩] := by
  rw [namesR_eq awT_ok]
  have h1 : parent (str ⟨#[97]⟩) = [] := by decide +kernel
  have h2 : parent (str ⟨#[97, 47, 98]⟩) = [97] := by decide +kernel
  have h3 : base (str ⟨#[97, 47, 98]⟩) = [98] := by decide +kernel
  unfold namesOf awT Node.p
  simp [h1, h2, h3, bs]
theorem awT_fits : Fits awT := by
  intro n hn
  unfold awT at hn
  simp at hn
  rcases hn with rfl | rfl <;> exact ⟨by decide, by decide⟩
theorem awT_get {nd : Node} {f : Bool} (h : (f = true ∧ okTree awT = true ∧ nd ∈ awT ∧ nd.p = [97, 47, 98]) ∨ (f = false ∧ nd = node0 ∧ (okTree awT = true → ∀ m ∈ awT, m.p ≠ [97, 47, 98]))) :
    f = true ∧ nd = ⟨⟨#[97, 47, 98]⟩, 1, ⟨#[120]⟩, 0⟩ := by
  rcases h with ⟨h1, _, h2, h3⟩ | ⟨_, _, h⟩
  · refine ⟨h1, ?_⟩
    unfold awT at h2
    simp at h2
    rcases h2 with rfl | rfl
    · exact absurd h3 (by decide)
    · rfl
  · exact absurd rfl (h awT_ok ⟨⟨#[97, 47, 98]⟩, 1, ⟨#[120]⟩, 0⟩ (by unfold awT; simp))

end Go.Proofs.YtpaeihdkggbeoaaGreatDoor
