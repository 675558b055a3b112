/- slices.Grow and slices.Concat of nodes in their order; slices.Clone of nodes: the walks. Conditions: none beyond what each contract states. -/
import Derived.Test.YtpaeihdkggbeoaaGreatDoorConcat
namespace Go.Proofs.YtpaeihdkggbeoaaGreatDoor
open Go.RowKit Go.Op

set_option maxRecDepth 100000 in
set_option maxHeartbeats 4000000 in
/-- a copy of a list of nodes -/
theorem clone_any (p : Option Addr) (t : List Node) (n cap : Nat) (w : World) (hR : Row w p t) (hn : t.length = n) (hbig : n ≤ 1048576) (hpn : p = none → t = []) :
    Calls Tryz.prog 31 #[.slice p n cap] w fun e w' => ∃ v, e = .returned v ∧ w'.ownsRow w.heap.size 40 4 v n (cellsOf t) ∧ Off [] w w' := by
  obtain ⟨i0, hi0, hz0, hz1, hz2⟩ := info_parts infoNode
  have q22 : ∀ (w : World) (a : Option Addr) (n c n' c' : Nat), (binOp .eql 22 (.slice a n c) (.slice none n' c')).run Tryz.prog w = .ok (.bool a.isNone) w := fun w a n c n' c' => Lib.run_eql_slice_nil w _ _ a n c n' c' Tryz.underlying22
  cases p with
  | none =>
    obtain rfl := hpn rfl
    obtain rfl : 0 = n := hn
    clear hR hpn
    go_enter Tryz.func31, Tryz.ntmps31
    go_wp2_with fail
    go_ret
    exact ⟨_, rfl, ⟨rfl, .inl ⟨rfl, rfl⟩⟩, Off.refl _ _⟩
  | some a =>
    have HC := Lib.hid (fun (j : Nat) (u : Value) (hj : (cellsOf t)[j]? = some u) => hR.cells hj)
    have HO := Lib.hid (cellsOf_one (t := t))
    have HCL := Lib.hid (show (cellsOf t).length = n * 4 by rw [cellsOf_len, hn])
    clear hR hpn hn
    go_enter Tryz.func31, Tryz.ntmps31
    go_wp2_with (at_builtin; refine wpList_append_own _ rfl _ _ 22 rfl w.heap.size 40 i0 node0.val 4 48 Tryz.underlying22 hi0 hz0 hz1 hz2 rfl (by decide) _ _ _ rfl (World.ownsRow_made w #[] 0 (Nat.le_refl _) (Nat.zero_le _) rfl) a n cap (cellsOf t) rfl HCL.out ?qc2 HO.out ?qc4 ?qc5 ?qc6 ?_)
    case qc2 =>
      intro j u hj
      exact Lib.cell?_alloc_some _ (HC.out j u hj)
    case qc4 => unfold maxLen; omega
    case qc5 => omega
    case qc6 => simp
    intro v' w1 hown hgrow hnil
    go_wp2_with fail
    go_ret
    refine ⟨v', rfl, by simpa using hown, ?_⟩
    exact ((Off.refl _ w).alloc _).grown hgrow (by intro k hk; simp [Value.ownBlock] at hk; omega)
end Go.Proofs.YtpaeihdkggbeoaaGreatDoor
