/- Texts of this claim, one behind the other: Rune Ref Ref2 Ref3 Ref4 Ref6a RLaw Ref6b Same DifLaw RDif Concat. Conditions: what each lemma states. -/
import Derived.Test.YthciejabapdbgaaGreatDoorKa
import Derived.Lib.ValidLaws
import Derived.Test.YthciejabapdbgaaGreatDoorKb
import Derived.Laws.StructEq
import Derived.Lib.AppendZeros
import Derived.Lib.Walk
import Derived.Laws.AppendOwnNone
import Derived.Deep.Slices
set_option linter.unusedVariables false
set_option linter.unusedSimpArgs false
namespace Go.Proofs.YthciejabapdbgaaGreatDoor
section
open Go.RowKit Go.Op
end
section
open Go.RowKit Go.Op
end
section
open Go.RowKit Go.Op
end
section
open Go.RowKit Go.Op
end
section
open Go.RowKit Go.Op
theorem take_get {α : Type} {l : List α} {i : Nat} {x : α} (h : l[i]? = some x) : l.take (i + 1) = l.take i ++ [x] := by
  obtain ⟨h1, h2⟩ := List.getElem?_eq_some_iff.1 h; rw [List.take_succ_eq_append_getElem h1, h2]
end
section
open Go.RowKit Go.Op
def rdir (t : List Node) (p : Str) : Bool := decide (p = []) || ((t.find? fun n => decide (n.p = p)).map fun n => decide (n.kind = 2)).getD false
end
section
open Go.RowKit Go.Op
def rok (t done : List Node) (n : Node) : Bool := okPath n.p && rightN n && rdir t (parent n.p) && lastOk done n
theorem cmpN_snoc (x : Str) : ∀ l : List Str, cmpN l (l ++ [x]) = -1
  | [] => rfl
  | a :: l => by simp only [List.cons_append, cmpN, cmpB_self, if_true]; exact cmpN_snoc x l
theorem parent_before {p : Str} (h : okPath p = true) (hp : parent p ≠ []) : order (parent p) p < 0 := by
  have hd : (parts p).dropLast ≠ [] := fun e => by rw [parent_eq h, e] at hp; exact hp rfl
  have e1 : parts (parent p) = (parts p).dropLast := by rw [parent_eq h]; exact parts_joinP _ hd drop_clean
  unfold order; rw [e1]
  conv => lhs; rw [parts_split h]
  rw [List.dropLast_concat, cmpN_snoc]
  decide
theorem rdir_dir {t : List Node} {p : Str} (h : rdir t p = true) : p = [] ∨ ∃ n ∈ t, n.p = p ∧ n.kind = 2 := by
  unfold rdir at h; rw [Bool.or_eq_true, decide_eq_true_eq] at h
  rcases h with h | h
  · exact .inl h
  right
  cases hf : t.find? fun n => decide (n.p = p) with
  | none => rw [hf] at h; cases h
  | some n =>
    rw [hf] at h; have h1 := List.find?_some hf; exact ⟨n, List.mem_of_find?_eq_some hf, by simpa using h1, by simpa using h⟩
theorem dir_rdir {t : List Node} {p : Str} (hs : Sorted t) (h : isDir t p = true) : rdir t p = true := by
  unfold isDir at h; unfold rdir; rw [Bool.or_eq_true] at h ⊢
  rcases h with h | h
  · exact .inl h
  right
  rw [List.any_eq_true] at h; obtain ⟨n, hn, hp⟩ := h; simp only [Bool.and_eq_true, decide_eq_true_eq] at hp
  cases hf : t.find? fun n => decide (n.p = p) with
  | none =>
    have := List.find?_eq_none.1 hf n hn; simp [hp.1] at this
  | some m =>
    have h1 := List.find?_some hf; have h2 : m = n := hs.unique (List.mem_of_find?_eq_some hf) hn (by rw [hp.1]; simpa using h1)
    subst h2; simp [hp.2]
def RokTo (t : List Node) (k : Nat) : Prop := ∀ (j : Nat) (hj : j < t.length), j < k → rok t (t.take j) t[j] = true
theorem RokTo.succ {t : List Node} {k : Nat} (h : RokTo t k) (hk : k < t.length) (hn : rok t (t.take k) t[k] = true) : RokTo t (k + 1) := fun j hj hjk => by
  rcases Nat.lt_or_ge j k with h1 | h1
  · exact h j hj h1
  obtain rfl : j = k := by omega
  exact hn
theorem RokTo.tree {t : List Node} (hl : t.length ≤ 1000) (h : RokTo t t.length) : okTree t = true := by
  have hs : ∀ k, k ≤ t.length → Sorted (t.take k) := fun k => by
    induction k with
    | zero => intro _; simp [Sorted]
    | succ k ih =>
      intro hk
      rw [List.take_succ_eq_append_getElem (by omega)]; have h1 := h k (by omega) (by omega); unfold rok at h1; simp only [Bool.and_eq_true] at h1; exact sorted_snoc (ih (by omega)) h1.2
  have hst : Sorted t := by have := hs t.length (Nat.le_refl _); rwa [List.take_length] at this
  have ho : ∀ k, k ≤ t.length → okFrom [] (t.take k) = true := fun k => by
    induction k with
    | zero => intro _; simp [okFrom]
    | succ k ih =>
      intro hk
      have hkl : k < t.length := by omega
      refine okFrom_take_succ hkl (ih (by omega)) ?_
      have h1 := h k (by omega) (by omega); unfold rok at h1; simp only [Bool.and_eq_true] at h1; rw [okNext_eq, h1.1.1.1, h1.1.1.2, h1.2, Bool.true_and, Bool.true_and, Bool.true_and]; unfold isDir; rw [Bool.or_eq_true]
      rcases rdir_dir h1.1.2 with h2 | ⟨m, hm, hp, hk2⟩
      · exact .inl (decide_eq_true h2)
      by_cases he : parent t[k].p = []
      · exact .inl (decide_eq_true he)
      right
      rw [List.any_eq_true]; refine ⟨m, ?_, by simp [hp, hk2]⟩; obtain ⟨j, hj, rfl⟩ := List.getElem_of_mem hm; have hlt : j < k := by
        rcases Nat.lt_trichotomy j k with h3 | h3 | h3
        · exact h3
        · subst h3
          have := parent_before h1.1.1.1 he; rw [← hp, order_self] at this; omega
        have h4 := List.pairwise_iff_getElem.1 hst k j hkl hj h3; have h5 := parent_before h1.1.1.1 he; rw [← hp] at h5; have := order_trans h4 h5; rw [order_self] at this; omega
      have : (t.take k)[j]? = some t[j] := by rw [List.getElem?_take, if_pos hlt, List.getElem?_eq_getElem]
      exact List.mem_of_getElem? this
  unfold okTree; have := ho t.length (Nat.le_refl _); rw [List.take_length] at this; rw [this, decide_eq_true hl]; rfl
end
section
open Go.RowKit Go.Op
def Fits1 (t : List Node) : Prop := ∀ n ∈ t, n.path.size ≤ 1048576 ∧ n.data.size ≤ 1048576
theorem Fits1.fits {t : List Node} (h : Fits1 t) : Fits t := fun n hn => by have := h n hn; unfold maxLen; omega
end
section
open Go.RowKit Go.Op
instance : DecidableEq Node := fun a b => by
  rcases a with ⟨a1, a2, a3, a4⟩
  rcases b with ⟨b1, b2, b3, b4⟩
  exact decidable_of_iff (a1 = b1 ∧ a2 = b2 ∧ a3 = b3 ∧ a4 = b4) (by simp)
theorem toList_iff {x y : ByteArray} : x.toList = y.toList ↔ x = y := ⟨fun h => str_inj (by rwa [toList_str, toList_str] at h), fun h => by rw [h]⟩
theorem eqNode (x y : Node) (w : World) : (Op.equalIn 10000 105 (.agg #[.string x.path, .int .i64 x.kind, .string x.data, .int .i64 x.mode]) (.agg #[.string y.path, .int .i64 y.kind, .string y.data, .int .i64 y.mode])).run Tryz.prog w = .ok (decide (x = y)) w := by
  have u3 := Tryz.underlying3; have a3 := Tryz.isAgg3; have z3 := Tryz.sizeOf3; have u9 := Tryz.underlying9; have a9 := Tryz.isAgg9; have z9 := Tryz.sizeOf9; have hS : Tryz.prog.underlying 105 = some (.struct (Tryz.prog.fieldsOf 105)) := by kernel_rfl
  have hp : Tryz.prog.stoodInHeld 105 = false := by kernel_rfl
  rw [show (10000 : Nat) = 9999 + 1 from rfl, run_equalIn_agg w 9999 105 _ _ hS hp]; simp only [Program.fieldsOf, Tryz.underlying105]
  go_simp
  obtain ⟨x1, x2, x3, x4⟩ := x; obtain ⟨y1, y2, y3, y4⟩ := y
  by_cases h1 : x1 = y1 <;> by_cases h2 : x2 = y2 <;> by_cases h3 : x3 = y3 <;> by_cases h4 : x4 = y4 <;> simp [toList_iff, h1, h2, h3, h4]
set_option maxRecDepth 100000 in
set_option maxHeartbeats 4000000 in
theorem rsame_any (L M : List Node) (p q : Option Addr) (c d : Nat) (w : World) (hL : L.length ≤ 1099511627776) (hM : M.length ≤ 1099511627776) (hp : Row w p L) (hq : Row w q M) :
    Calls Tryz.prog 21 #[.slice p L.length c, .slice q M.length d] w fun e w' => e = .returned (.bool (decide (L = M))) ∧ Off [] w w' := by
  obtain ⟨l, hl⟩ : ∃ l, L.length = l := ⟨_, rfl⟩
  obtain ⟨m, hm⟩ : ∃ m, M.length = m := ⟨_, rfl⟩
  rw [hl, hm]; rw [hl] at hL; rw [hm] at hM; have HP := Lib.hid hp; have HQ := Lib.hid hq; have HL := Lib.hid hl; have HM := Lib.hid hm; clear hp hq hl hm
  by_cases hlm : l = m
  · subst hlm
    go_enter Tryz.func21, Tryz.ntmps21
    go_wp2_with fail
    go_loopw [5] (fun x wr => ∃ i : Nat, x = .int .i64 i ∧ i ≤ l ∧ Off [] w wr ∧ Hid (L.take i = M.take i)) (fun x _ => l - (intOf x).toNat)
    case atStart => exact ⟨0, rfl, by omega, Off.refl _ _, Lib.hid rfl⟩
    case round =>
      obtain ⟨i, rfl, hi, ho, htk⟩ := hrel
      by_cases hlt : i < l
      · have hi1 := List.getElem?_eq_getElem (show i < L.length by rw [HL.out]; exact hlt)
        have hi2 := List.getElem?_eq_getElem (show i < M.length by rw [HM.out]; exact hlt); obtain ⟨a, rfl, hna, hab⟩ := (HP.out.off ho).get i (show i < L.length by rw [HL.out]; exact hlt); obtain ⟨b, rfl, hnb, hbb⟩ := (HQ.out.off ho).get i (show i < M.length by rw [HM.out]; exact hlt); generalize L[i]'(by rw [HL.out]; exact hlt) = x at *
        generalize M[i]'(by rw [HM.out]; exact hlt) = y at *
        have c0 := hna.path; have c1 := hna.kind; have c2 := hna.data; have c3 := hna.mode; have d0 := hnb.path; have d1 := hnb.kind; have d2 := hnb.data; have d3 := hnb.mode; have heq := eqNode x y; have hgd : Tryz.prog.eqGuardType Tryz.prog.depth 105 = false := by kernel_rfl
        have HI1 := Lib.hid hi1; have HI2 := Lib.hid hi2; have habk : (a.add (i * 4)).block < wr.heap.size := by rw [add_block]; exact hab
        have hbbk : (b.add (i * 4)).block < wr.heap.size := by rw [add_block]; exact hbb
        clear hna hnb hi1 hi2
        by_cases hxy : x = y
        · have hd : decide (x = y) = true := decide_eq_true hxy
          have HXY := Lib.hid hxy; rw [hd] at heq; clear hxy hd
          go_wp2_with fail
          go_quiet (fail)
          go_wp2_with fail
          refine ⟨⟨i + 1, by congr 1, by omega, ho.drewN _, Lib.hid ?_⟩, by simp only [intOf]; omega⟩
          rw [take_get HI1.out, take_get HI2.out, htk.out, HXY.out]
        have hd : decide (x = y) = false := decide_eq_false hxy
        have HXY := Lib.hid hxy; rw [hd] at heq; clear hxy hd
        go_wp2_with fail
        go_quiet (fail)
        go_wp2_with fail
        go_ret
        have hne : L ≠ M := fun e => by
          have h1 := HI1.out; rw [e, HI2.out] at h1; exact HXY.out (Option.some.inj h1).symm
        exact ⟨by rw [decide_eq_false hne]; rfl, ho.drewN _⟩
      obtain rfl : i = l := by omega
      go_wp2_with fail
      go_ret
      have he : L = M := by
        have := htk.out; rw [List.take_of_length_le (by rw [HL.out]; exact Nat.le_refl _), List.take_of_length_le (by rw [HM.out]; exact Nat.le_refl _)] at this; exact this
      exact ⟨by rw [decide_eq_true he]; rfl, ho⟩
  have hne : L ≠ M := fun e => hlm (by rw [← HL.out, ← HM.out, e])
  have HNE := Lib.hid hne; clear hne
  go_enter Tryz.func21, Tryz.ntmps21
  go_wp2_with fail
  go_ret
  exact ⟨by rw [decide_eq_false HNE.out]; rfl, Off.refl _ _⟩
end
section
open Go.RowKit Go.Op
end
section
open Go.RowKit Go.Op
end
section
open Go.RowKit Go.Op
def cellsOf (t : List Node) : List Value := t.flatMap fun n => [.string n.path, .int .i64 n.kind, .string n.data, .int .i64 n.mode]
theorem cellsOf_len (t : List Node) : (cellsOf t).length = t.length * 4 := by
  unfold cellsOf; rw [List.length_flatMap]; induction t with | nil => rfl | cons n t ih => simp at ih ⊢; omega
theorem cellsOf_append (a b : List Node) : cellsOf (a ++ b) = cellsOf a ++ cellsOf b := by unfold cellsOf; rw [List.flatMap_append]
theorem cellsOf_get : ∀ (t : List Node) (j : Nat) (u : Value), (cellsOf t)[j]? = some u → ∃ (i r : Nat) (n : Node), j = i * 4 + r ∧ r < 4 ∧ t[i]? = some n ∧ [Value.string n.path, .int .i64 n.kind, .string n.data, .int .i64 n.mode][r]? = some u
  | [], j, u, h => by simp [cellsOf] at h
  | n :: t, j, u, h => by
    have e : cellsOf (n :: t) = [Value.string n.path, .int .i64 n.kind, .string n.data, .int .i64 n.mode] ++ cellsOf t := by simp [cellsOf]
    rw [e] at h
    rcases Nat.lt_or_ge j 4 with hj | hj
    · rw [List.getElem?_append_left (by simpa using hj)] at h
      exact ⟨0, j, n, by omega, hj, rfl, h⟩
    rw [List.getElem?_append_right (by simpa using hj)] at h; obtain ⟨i, r, m, h1, h2, h3, h4⟩ := cellsOf_get t _ u h; simp at h1; exact ⟨i + 1, r, m, by omega, h2, by simpa using h3, h4⟩
theorem Row.cells {w : World} {a : Addr} {t : List Node} (h : Row w (some a) t) {j : Nat} {u : Value} (hj : (cellsOf t)[j]? = some u) : w.cell? (a.add j) = some u := by
  obtain ⟨i, r, n, rfl, hr, hi, hu⟩ := cellsOf_get t j u hj; obtain ⟨a', ha, _, hn⟩ := h (fun e => by subst e; simp at hi)
  cases ha
  have hn := hn i n hi; rw [← Go.Deep.add_add]
  match r, hr, hu with
  | 0, _, hu => cases hu; rw [show (a.add (i * 4)).add 0 = a.add (i * 4) by rw [Go.Deep.add_add]; rfl]; exact hn.path
  | 1, _, hu => cases hu; exact hn.kind
  | 2, _, hu => cases hu; exact hn.data
  | 3, _, hu => cases hu; exact hn.mode
theorem cellsOf_one {t : List Node} : ∀ u ∈ cellsOf t, u.oneCell' = true := by
  intro u hu
  unfold cellsOf at hu; rw [List.mem_flatMap] at hu; obtain ⟨n, _, hn⟩ := hu; simp only [List.mem_cons, List.not_mem_nil, or_false] at hn
  rcases hn with rfl | rfl | rfl | rfl <;> rfl
theorem own_row {W : World} {base : Nat} {v : Value} {t : List Node} (h : W.ownsRow base 105 4 v t.length (cellsOf t)) :
    ∃ p cap, v = .slice p t.length cap ∧ Row W p t ∧ t.length ≤ cap ∧ (p = none → t = [] ∧ cap = 0) ∧ ∀ a, p = some a → base ≤ a.block := by
  rcases h.2 with ⟨rfl, h1⟩ | ⟨g, cap, cur, rfl, hb, hh, hc, _, hsz, ht⟩
  · have h2 := List.length_eq_zero_iff.1 h1
    subst h2; exact ⟨none, 0, rfl, fun h => absurd rfl h, Nat.le_refl _, fun _ => ⟨rfl, rfl⟩, fun a h => by cases h⟩
  refine ⟨some ⟨g, 0, none⟩, cap, rfl, fun _ => ⟨⟨g, 0, none⟩, rfl, (Array.getElem?_eq_some_iff.1 hh).1, fun i n hi => ?_⟩, hc, fun h => (by cases h), fun a h => by cases h; exact hb⟩
  have hil := (List.getElem?_eq_some_iff.1 hi).1; have key : ∀ r : Nat, r < 4 → W.cell? ⟨g, i * 4 + r, none⟩ = (cellsOf t)[i * 4 + r]? := fun r hr => by
    rw [cell_of_row W g _ cur 105 (0, 0) hh, ← ht, List.getElem?_take, if_pos (by omega)]; simp
  have hcell : ∀ (t : List Node) (i : Nat) (n : Node), t[i]? = some n → ∀ r, r < 4 → (cellsOf t)[i * 4 + r]? = [Value.string n.path, .int .i64 n.kind, .string n.data, .int .i64 n.mode][r]? := fun t => by
    induction t with
    | nil => intro i n h; simp at h
    | cons m t ih =>
      intro i n h r hr
      have e : cellsOf (m :: t) = [Value.string m.path, .int .i64 m.kind, .string m.data, .int .i64 m.mode] ++ cellsOf t := by simp [cellsOf]
      rw [e]
      cases i with
      | zero => simp at h; subst h; rw [Nat.zero_mul, Nat.zero_add, List.getElem?_append_left (by simpa using hr)]
      | succ i =>
        rw [List.getElem?_append_right (by simp; omega)]; have := ih i n (by simpa using h) r hr; rw [← this]
        congr 1
        simp; omega
  rw [addr_add]; exact ⟨(key 0 (by omega)).trans (hcell t i n hi 0 (by omega)), (key 1 (by omega)).trans (hcell t i n hi 1 (by omega)), (key 2 (by omega)).trans (hcell t i n hi 2 (by omega)), (key 3 (by omega)).trans (hcell t i n hi 3 (by omega))⟩
theorem own_base {W : World} {b b' e sz n : Nat} {v : Value} {xs : List Value} (h : W.ownsRow b e sz v n xs) (hb : b' ≤ b) : W.ownsRow b' e sz v n xs := by
  refine ⟨h.1, ?_⟩
  rcases h.2 with h | ⟨g, cap, cur, h1, h2, h3⟩
  · exact .inl h
  exact .inr ⟨g, cap, cur, h1, Nat.le_trans hb h2, h3⟩
theorem own_grown {w wr W6 : World} {e sz n : Nat} {v : Value} {xs : List Value} (ho : Off [] w wr) (hown : wr.ownsRow w.heap.size e sz v n xs) (hg : wr.grownBy W6 v.ownBlock) : Off [] w W6 := by
  refine ho.grown hg (fun g hg' => .inl ?_)
  rcases hown.2 with ⟨rfl, _⟩ | ⟨g', cap, cur, rfl, hb, _⟩
  · cases hg'
  cases hg'; exact hb
abbrev Pt := Option Addr × List Node × Nat
structure PtsAt (w : World) (g : Nat) (L : List Pt) : Prop where
  lt : g < w.heap.size
  at_ : ∀ (i : Nat) (x : Pt), L[i]? = some x → w.cell? ⟨g, i, none⟩ = some (.slice x.1 x.2.1.length x.2.2) ∧ Row w x.1 x.2.1 ∧ (x.1 = none → x.2.1 = [] ∧ x.2.2 = 0)
theorem PtsAt.off {w w' : World} {g : Nat} {L : List Pt} (h : PtsAt w g L) (ho : Off [] w w') : PtsAt w' g L :=
  ⟨Nat.lt_of_lt_of_le h.lt ho.size, fun i x hi => ⟨(ho.cell (p := ⟨g, i, none⟩) h.lt (by simp)).trans (h.at_ i x hi).1, (h.at_ i x hi).2.1.off ho, (h.at_ i x hi).2.2⟩⟩
def nodesIn (L : List Pt) : List Node := L.flatMap fun x => x.2.1
theorem nodesIn_take {L : List Pt} {i : Nat} {x : Pt} (h : L[i]? = some x) : nodesIn (L.take (i + 1)) = nodesIn (L.take i) ++ x.2.1 := by
  unfold nodesIn; rw [take_get h, List.flatMap_append]; simp
theorem nodesIn_le (L : List Pt) (i : Nat) : (nodesIn (L.take i)).length ≤ (nodesIn L).length := by
  conv => rhs; rw [← List.take_append_drop i L]
  unfold nodesIn; rw [List.flatMap_append, List.length_append]; omega
end
end Go.Proofs.YthciejabapdbgaaGreatDoor
