/- hawserlaw06.TreeBack: the walk. Conditions: the tables of unicode/utf8 are laid. -/
import Derived.Test.YtpaeihdkggbeoaaGreatDoorAt
import Derived.Test.YtpaeihdkggbeoaaGreatDoorTPairs
namespace Go.Proofs.YtpaeihdkggbeoaaGreatDoor
open Go.RowKit Go.Op

theorem fits_put {t : List Node} (h : okTree t = true) : Fits t := fun x hx => ⟨by have := okTree_small h hx; unfold maxLen; omega, by
  have h1 := okTree_right h hx
  unfold rightN at h1
  unfold maxLen
  split at h1
  · simp only [Bool.and_eq_true, decide_eq_true_eq] at h1; omega
  · split at h1
    · simp only [Bool.and_eq_true, decide_eq_true_eq] at h1; omega
    · split at h1
      · simp only [Bool.and_eq_true, decide_eq_true_eq] at h1; omega
      · cases h1⟩
theorem fits_atR {t : List Node} {q : Str} : Fits (atR t q) := by
  unfold atR
  split
  · rename_i h
    split
    · intro x hx
      rcases List.mem_cons.1 hx with rfl | hx
      · decide
      · exact fits_put h x hx
    · split
      · intro x hx
        obtain ⟨y, hy, rfl⟩ := List.mem_map.1 hx
        have := fits_put h y (mem_inAt.1 hy).1
        refine ⟨?_, this.2⟩
        show (bs (y.p.drop (q.length + 1))).size ≤ maxLen
        rw [bs_size, List.length_drop]
        have h2 : y.p.length = y.path.size := str_size y.path
        have := this.1
        omega
      · intro x hx; cases hx
  · intro x hx; cases hx
theorem atR_len {t : List Node} {q : Str} : (atR t q).length ≤ 1001 := by
  unfold atR
  split
  · rename_i h
    have := okTree_len h
    split
    · rw [List.length_cons]; omega
    · split
      · rw [List.length_map]
        have := filter_len t (fun n => within n.p q)
        unfold inAt; omega
      · simp
  · simp
theorem own_max {W : World} {base n : Nat} {p : Option Addr} {c : Nat} {xs : List Value} (h : W.ownsRow base 40 4 (.slice p n c) n xs) : c ≤ maxLen := by
  rcases h.2 with ⟨h0, _⟩ | ⟨_, _, _, hv, _, _, _, hmx, _⟩
  · cases h0; decide
  · cases hv; exact hmx
/-- what is made: a list of nodes of the call's own, with all that a further call asks of it -/
theorem own_all {W : World} {base : Nat} {v : Value} {t : List Node} (h : W.ownsRow base 40 4 v t.length (cellsOf t)) : ∃ p c, v = .slice p t.length c ∧ Row W p t ∧ t.length ≤ c ∧ c ≤ maxLen ∧ (p = none → t = [] ∧ c = 0) := by
  have h0 := h
  obtain ⟨p, c, rfl, hr, hc, hn, _⟩ := own_row h
  exact ⟨p, c, rfl, hr, hc, own_max h0, hn⟩
theorem same_v (L M : List Node) (p q : Option Addr) (n m c d : Nat) (w : World) (hn : L.length = n) (hm : M.length = m) (hL : n ≤ 1099511627776) (hM : m ≤ 1099511627776) (hp : Row w p L) (hq : Row w q M) (b : Bool) (hb : decide (L = M) = b) :
    Calls Tryz.prog 15 #[.slice p n c, .slice q m d] w fun e w' => e = .returned (.bool b) ∧ Off [] w w' := by
  subst hn; subst hm; subst hb
  exact same_any L M p q c d w hL hM hp hq
theorem differ_mem_within {t x v : List Node} {path s : ByteArray} (h : PutWell t path v x) (hs : s ∈ differR t x) : within (str s) (str path) = true := by
  unfold differR at hs
  rw [if_pos (by rw [h.tree, h.okx]; rfl)] at hs
  exact h.dif hs
end Go.Proofs.YtpaeihdkggbeoaaGreatDoor
