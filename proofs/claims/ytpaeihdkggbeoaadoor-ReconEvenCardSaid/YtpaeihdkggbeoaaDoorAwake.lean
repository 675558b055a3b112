/- hawserlaw06.awake: a closed walk. Conditions: the tables of unicode/utf8 are laid. -/
import Derived.Test.YtpaeihdkggbeoaaDoorTLaw
namespace Go.Proofs.YtpaeihdkggbeoaaDoor
open Go.RowKit Go.Op

theorem row_blk {w : World} {g ty : Nat} {cs : Array Value} {t : List Node} (h : Blk w g ty cs)
    (hcs : ∀ (i : Nat) (n : Node), t[i]? = some n → cs[i * 4]? = some (.string n.path) ∧ cs[i * 4 + 1]? = some (.int .i64 n.kind) ∧ cs[i * 4 + 2]? = some (.string n.data) ∧ cs[i * 4 + 3]? = some (.int .i64 n.mode)) :
    Row w (some ⟨g, 0, none⟩) t := fun _ => by
  refine ⟨_, rfl, h.lt, fun i n hi => ?_⟩
  obtain ⟨h0, h1, h2, h3⟩ := hcs i n hi
  rw [addr_add]
  exact ⟨(h.cell _).trans h0, (h.cell _).trans h1, (h.cell _).trans h2, (h.cell _).trans h3⟩
def awT : List Node := [⟨⟨#[97]⟩, 2, ⟨#[]⟩, 0⟩, ⟨⟨#[97, 47, 98]⟩, 1, ⟨#[120]⟩, 0⟩]
theorem awT_ok : okTree awT = true := by decide +kernel
theorem awT_names : namesR awT [97] = [⟨#[98]⟩] := by
  rw [namesR_eq awT_ok]
  have h1 : parent (str ⟨#[97]⟩) = [] := by decide +kernel
  have h2 : parent (str ⟨#[97, 47, 98]⟩) = [97] := by decide +kernel
  have h3 : base (str ⟨#[97, 47, 98]⟩) = [98] := by decide +kernel
  unfold namesOf awT Node.p
  simp [h1, h2, h3, bs]
theorem awT_fits : Fits awT := by
  intro n hn
  unfold awT at hn
  simp at hn
  rcases hn with rfl | rfl <;> exact ⟨by decide, by decide⟩
theorem awT_get {nd : Node} {f : Bool} (h : (f = true ∧ okTree awT = true ∧ nd ∈ awT ∧ nd.p = [97, 47, 98]) ∨ (f = false ∧ nd = node0 ∧ (okTree awT = true → ∀ m ∈ awT, m.p ≠ [97, 47, 98]))) :
    f = true ∧ nd = ⟨⟨#[97, 47, 98]⟩, 1, ⟨#[120]⟩, 0⟩ := by
  rcases h with ⟨h1, _, h2, h3⟩ | ⟨_, _, h⟩
  · refine ⟨h1, ?_⟩
    unfold awT at h2
    simp at h2
    rcases h2 with rfl | rfl
    · exact absurd h3 (by decide)
    · rfl
  · exact absurd rfl (h awT_ok ⟨⟨#[97, 47, 98]⟩, 1, ⟨#[120]⟩, 0⟩ (by unfold awT; simp))

set_option maxRecDepth 100000 in
set_option maxHeartbeats 4000000 in
theorem awake_any (w : World) (hT : Tabs w) : Calls Tryd.prog 10 #[] w fun e w' => e = .returned (.bool true) ∧ Off [] w w' := by
  go_enter Tryd.func10, Tryd.ntmps10
  go_wp2_with fail
  have hB0 := Blk.new w 29 #[.string ⟨#[97]⟩, .int .i64 2, .string ⟨#[]⟩, .int .i64 0, .string ⟨#[97, 47, 98]⟩, .int .i64 1, .string ⟨#[120]⟩, .int .i64 0]
  have hR0 : Row (w.alloc (.cells #[.string ⟨#[97]⟩, .int .i64 2, .string ⟨#[]⟩, .int .i64 0, .string ⟨#[97, 47, 98]⟩, .int .i64 1, .string ⟨#[120]⟩, .int .i64 0] 29)) (some ⟨w.heap.size, 0, none⟩) awT := row_blk hB0 (by
    intro i n h
    match i, h with
    | 0, h => cases h; exact ⟨rfl, rfl, rfl, rfl⟩
    | 1, h => cases h; exact ⟨rfl, rfl, rfl, rfl⟩
    | i + 2, h => simp [awT] at h)
  have ho0 : Off [] w (w.alloc (.cells #[.string ⟨#[97]⟩, .int .i64 2, .string ⟨#[]⟩, .int .i64 0, .string ⟨#[97, 47, 98]⟩, .int .i64 1, .string ⟨#[120]⟩, .int .i64 0] 29)) := (Off.refl _ _).alloc _
  have HR0 := Lib.hid hR0
  clear hR0 hB0
  refine (get_any _ awT 2 2 ⟨#[97, 47, 98]⟩ _ HR0.out rfl (by decide) (by decide) awT_fits (by decide) (hT.off ho0)).mono ?_
  rintro e w1 ⟨nd, f, rfl, hg, ho1⟩
  obtain ⟨rfl, rfl⟩ := awT_get hg
  have ho2 := ho0.trans_nil ho1
  have HR1 := Lib.hid (HR0.out.off ho1)
  clear HR0 hg ho1 ho0
  unfold Node.val
  dsimp only
  go_wp2_with fail
  have hB2 := Blk.new w1 29 #[.string ⟨#[97, 47, 98]⟩, .int .i64 1, .string ⟨#[120]⟩, .int .i64 0]
  have HR2 := Lib.hid (HR1.out.off ((Off.refl [] w1).alloc (.cells #[.string ⟨#[97, 47, 98]⟩, .int .i64 1, .string ⟨#[120]⟩, .int .i64 0] 29)))
  refine (names_any _ awT 2 2 ⟨#[97]⟩ _ HR2.out rfl (by decide) (by decide) awT_fits (by decide) (hT.off (ho2.alloc _))).mono ?_
  rintro e w3 ⟨v, rfl, hown, ho3⟩
  rw [show namesR awT (str ⟨#[97]⟩) = [⟨#[98]⟩] from awT_names] at hown
  obtain ⟨g, cap, rfl⟩ := ownsRow_succ hown
  obtain ⟨cur, hbk, hge, hcap, hcur⟩ := own_blk hown (by decide)
  have hl0 := (hbk.cell 0).trans (hcur 0 _ rfl)
  have hB3 := hB2.off ho3 (by simp)
  have hc3 := hB3.cell
  have ho4 := (ho2.alloc (.cells #[.string ⟨#[97, 47, 98]⟩, .int .i64 1, .string ⟨#[120]⟩, .int .i64 0] 29)).trans_nil ho3
  have HR3 := Lib.hid (HR2.out.off ho3)
  clear hown hbk hcur hB2 hB3 HR2 HR1 ho2 ho3
  go_wp2_with fail
  refine (check_v _ awT 2 2 _ HR3.out rfl (by decide) (by decide) awT_fits (hT.off ho4) 0 (chkV_ok awT_ok)).mono ?_
  rintro e w5 ⟨rfl, ho5⟩
  go_wp2_with fail
  go_ret
  exact ⟨rfl, ho4.trans_nil ho5⟩
end Go.Proofs.YtpaeihdkggbeoaaDoor
