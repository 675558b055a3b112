/- Texts of this claim, one behind the other: GlobH GlobM GlobN GlobQ GlobR GlobC Calm RunK RunP AskE StampLaw RunE RunC. Conditions: what each lemma states. -/
import Derived.Test.YthciejabapdbgaaGreatDoorKi
import Derived.Test.YthciejabapdbgaaGreatDoorKb
import Derived.Test.YthciejabapdbgaaGreatDoorKe
import Derived.Deep.RegionHeld3
import Derived.Lib.QuietBelow
import Derived.Laws.EntriesVeiled
import Derived.Test.YthciejabapdbgaaGreatDoorKh
set_option linter.unusedVariables false
set_option linter.unusedSimpArgs false
namespace Go.Proofs.YthciejabapdbgaaGreatDoor
section
open Go.RowKit Go.Op
open Go.Lib (validD decodeL)
theorem own_atG {w : World} {base e sz n : Nat} {v : Value} {xs : List Value} (h : w.ownsRow base e sz v n xs) :
    ∃ pl cap, v = .slice pl n cap ∧ n ≤ cap ∧ cap ≤ maxLen ∧ (0 < n → ∃ g, pl = some ⟨g, 0, none⟩ ∧ base ≤ g ∧ g < w.heap.size ∧ (∃ cs, Blk w g e cs) ∧ ∀ (k : Nat) (u : Value), xs[k]? = some u → w.cell? ⟨g, k, none⟩ = some u) := by
  rcases h.2 with ⟨rfl, rfl⟩ | ⟨g, cap, cur, rfl, hb, hh, hc, hm, hs, ht⟩
  · exact ⟨none, 0, rfl, Nat.le_refl _, by decide, fun h => absurd h (by omega)⟩
  refine ⟨_, cap, rfl, hc, hm, fun _ => ⟨g, rfl, hb, (Array.getElem?_eq_some_iff.1 hh).1, ⟨cur, hh⟩, fun k u hu => ?_⟩⟩
  have hB : Blk w g e cur := hh
  rw [hB.cell]; rw [← ht, List.getElem?_take] at hu
  split at hu
  · simpa using hu
  cases hu
theorem flat_getG {α : Type} (f : α → List Value) (z : Nat) (hf : ∀ x, (f x).length = z) : ∀ (l : List α) (i k : Nat) (x : α), l[i]? = some x → k < z → (l.flatMap f)[i * z + k]? = (f x)[k]?
  | [], i, k, x, h, _ => by simp at h
  | y :: l, 0, k, x, h, hk => by
    simp only [List.getElem?_cons_zero, Option.some.injEq] at h
    subst h; rw [List.flatMap_cons, List.getElem?_append_left (by rw [hf]; omega)]; simp
  | y :: l, i + 1, k, x, h, hk => by
    rw [List.flatMap_cons, List.getElem?_append_right (by rw [hf, Nat.succ_mul]; omega), hf]; rw [show (i + 1) * z + k - z = i * z + k by rw [Nat.succ_mul]; omega]; exact flat_getG f z hf l i k x (by simpa using h) hk
theorem ownsRow_iter {W : World} {base e sz n : Nat} {v : Value} {xs : List Value} (h : W.ownsRow base e sz v n xs) {k : Nat} {s : ByteArray} {pos : Nat} (hk : W.heap[k]? = some (.stringIter s pos)) (pos' : Nat) : (W.iterAt k s pos').ownsRow base e sz v n xs := by
  refine ⟨h.1, ?_⟩
  rcases h.2 with h | ⟨g, cap, cur, h1, h2, h3, h4⟩
  · exact .inl h
  refine .inr ⟨g, cap, cur, h1, h2, (Lib.iterAt_other W k g s pos' (fun e1 => ?_)).trans h3, h4⟩
  rw [e1, hk] at h3
  cases h3
theorem iter_alloc {W : World} {k : Nat} {s : ByteArray} {pos : Nat} (h : W.heap[k]? = some (.stringIter s pos)) (o : Obj) : (W.alloc o).heap[k]? = some (.stringIter s pos) :=
  (Below.heap_alloc W o k (Array.getElem?_eq_some_iff.1 h).1).trans h
theorem own_iter {W : World} {base e sz n : Nat} {v : Value} {xs : List Value} (h : W.ownsRow base e sz v n xs) {k : Nat} {s : ByteArray} {pos : Nat} (hk : W.heap[k]? = some (.stringIter s pos)) : some k ≠ v.ownBlock := by
  rcases h.2 with ⟨rfl, -⟩ | ⟨g, cap, cur, rfl, -, h3, -⟩
  · simp [Value.ownBlock]
  intro e1
  simp [Value.ownBlock] at e1
  rw [e1, h3] at hk
  cases hk
theorem iter_grown {W W' : World} {k : Nat} {s : ByteArray} {pos : Nat} {o : Obj} {row : Option Nat} (h : W.heap[k]? = some (.stringIter s pos)) (hg : (W.alloc o).grownBy W' row) (hr : some k ≠ row) : W'.heap[k]? = some (.stringIter s pos) :=
  (hg.block k (Array.getElem?_eq_some_iff.1 (iter_alloc h o)).1 hr).trans (iter_alloc h o)
theorem infoLit : (Tryz.prog.info? 469).map (fun i => (i.zero, i.size, i.bytes)) = some (some (.agg #[.int .i32 0, .bool false]), 2, 8) := by kernel_rfl
def litCells (l : List (Int × Bool)) : List Value := l.flatMap fun x => [.int .i32 x.1, .bool x.2]
theorem lit_get {l : List (Int × Bool)} {i : Nat} {x : Int × Bool} (h : l[i]? = some x) : (litCells l)[i * 2]? = some (.int .i32 x.1) ∧ (litCells l)[i * 2 + 1]? = some (.bool x.2) :=
  ⟨flat_getG (fun x : Int × Bool => [Value.int .i32 x.1, .bool x.2]) 2 (fun _ => rfl) l i 0 x h (by omega),
   flat_getG (fun x : Int × Bool => [Value.int .i32 x.1, .bool x.2]) 2 (fun _ => rfl) l i 1 x h (by omega)⟩
theorem two_at {w : World} {g : Nat} {t : TypeId} {a b : Value} (h : Blk w g t #[a, b]) : ∀ j u, [a, b][j]? = some u → w.cell? ((⟨g, 0, none⟩ : Addr).add j) = some u := by
  intro j u hj
  rw [addr_add, h.cell]
  simpa using hj
theorem cutpre_any (s : ByteArray) (w : World) :
    Calls Tryz.prog 411 #[.string s, .string ⟨#[33]⟩] w fun e w' => e = .returned (.tuple #[.string (bs (if bangs (str s) then (str s).tail else str s)), .bool (bangs (str s))]) ∧ w = w' := by
  refine (Tryz.strings_CutPrefix s _ w).mono ?_
  rintro e w' ⟨rfl, rfl⟩; refine ⟨?_, rfl⟩; have hb : Lib.hasPrefix s.data.toList (⟨#[33]⟩ : ByteArray).data.toList = bangs (str s) := by
    show [33].isPrefixOf (str s) = _
    unfold bangs
    cases str s with
    | nil => rfl
    | cons c l =>
      show ((33 : UInt8) == c && true) = (c == 33)
      rw [Bool.and_true, Bool.eq_iff_iff, beq_iff_eq, beq_iff_eq, eq_comm]
  unfold Lib.trimPrefix; rw [hb]; have : (List.drop (⟨#[33]⟩ : ByteArray).data.toList.length s.data.toList) = (str s).tail := by
    show List.drop 1 (str s) = _
    rw [List.drop_one]
  rw [this]
  rfl
theorem lits_esc (l : List Int) : lits false (92 :: l) = lits true l := by rw [lits, if_pos ⟨rfl, rfl⟩]
theorem lits_true (x : Int) (l : List Int) : lits true (x :: l) = (x, true) :: lits false l := by rw [lits, if_neg (fun h => by cases h.2)]
theorem lits_false {x : Int} (h : x ≠ 92) (l : List Int) : lits false (x :: l) = (x, false) :: lits false l := by rw [lits, if_neg (fun e => h e.1)]
def LitAt (w : World) (a : Option Addr) (L : List (Int × Bool)) : Prop :=
  L ≠ [] → ∃ g o, a = some ⟨g, o, none⟩ ∧ ∀ (i : Nat) (x : Int × Bool), L[i]? = some x → w.cell? ⟨g, o + i * 2, none⟩ = some (.int .i32 x.1) ∧ w.cell? ⟨g, o + i * 2 + 1, none⟩ = some (.bool x.2)
theorem lit_at {w : World} {pl : Option Addr} {acc : List (Int × Bool)} {m base : Nat} (h : 0 < m → ∃ g, pl = some ⟨g, 0, none⟩ ∧ base ≤ g ∧ g < w.heap.size ∧ (∃ cs, Blk w g 469 cs) ∧ ∀ (k : Nat) (u : Value), (litCells acc)[k]? = some u → w.cell? ⟨g, k, none⟩ = some u) (hm : acc.length = m) : LitAt w pl acc := fun hne => by
  obtain ⟨g, rfl, -, -, -, hc⟩ := h (by rw [← hm]; exact List.length_pos_iff.2 hne); refine ⟨g, 0, rfl, fun i x hx => ?_⟩; obtain ⟨h1, h2⟩ := lit_get hx; rw [Nat.zero_add]; exact ⟨hc _ _ h1, hc _ _ h2⟩
theorem LitAt.tail {w : World} {g o _k : Nat} {L : List (Int × Bool)} {x : Int × Bool} (h : LitAt w (some ⟨g, o, none⟩) (x :: L)) : LitAt w (some ⟨g, o + 2, none⟩) L := fun hne => by
  obtain ⟨g', o', e, hc⟩ := h (by simp); injection e with e
  injection e with e1 e2
  subst e1; subst e2; refine ⟨g, o + 2, rfl, fun i y hy => ?_⟩; have := hc (i + 1) y (by simpa using hy); rw [show o + 2 + i * 2 = o + (i + 1) * 2 by omega]; exact this
theorem lit_if {w : World} {g o c : Nat} {L : List (Int × Bool)} (h : LitAt w (some ⟨g, o + 2 + 2 + 2, none⟩) L) (h3 : c = 3 → L = []) : LitAt w (if c = 3 then some ⟨g, o, none⟩ else some ⟨g, o + 6, none⟩) L := by
  by_cases e : c = 3
  · rw [if_pos e, h3 e]; exact fun hne => absurd rfl hne
  rw [if_neg e]; exact h
theorem held_dash {a0 a1 a2 r : Int} {e0 e1 e2 : Bool} {L : List (Int × Bool)} (h : (a1, e1) = ((45 : Int), false)) : heldL r ((a0, e0) :: (a1, e1) :: (a2, e2) :: L) = ((decide (a0 ≤ r) && decide (r ≤ a2)) || heldL r L) := by
  rw [heldL, if_pos h]
theorem held_nodash {a0 a1 a2 r : Int} {e0 e1 e2 : Bool} {L : List (Int × Bool)} (h : ¬ (a1, e1) = ((45 : Int), false)) : heldL r ((a0, e0) :: (a1, e1) :: (a2, e2) :: L) = (decide (a0 = r) || heldL r ((a1, e1) :: (a2, e2) :: L)) := by
  rw [heldL, if_neg h]
def sliceLen (v : Value) : Nat := match v with | .slice _ n _ => n | _ => 0
theorem eqLit (a b : Int × Bool) (w : World) : (Op.equalIn 10000 469 (.agg #[.int .i32 a.1, .bool a.2]) (.agg #[.int .i32 b.1, .bool b.2])).run Tryz.prog w = .ok (decide (a = b)) w := by
  have u3 := Tryz.underlying21; have a3 := Tryz.isAgg21; have z3 := Tryz.sizeOf21; have u4 := Tryz.underlying4; have a4 := Tryz.isAgg4; have z4 := Tryz.sizeOf4; have hS : Tryz.prog.underlying 469 = some (.struct (Tryz.prog.fieldsOf 469)) := by kernel_rfl
  have hp : Tryz.prog.stoodInHeld 469 = false := by kernel_rfl
  rw [show (10000 : Nat) = 9999 + 1 from rfl, run_equalIn_agg w 9999 469 _ _ hS hp]; simp only [Program.fieldsOf, Tryz.underlying469]
  go_simp
  obtain ⟨a1, a2⟩ := a; obtain ⟨b1, b2⟩ := b
  by_cases h1 : a1 = b1 <;> by_cases h2 : a2 = b2 <;> simp [h1, h2]
set_option maxRecDepth 100000 in
set_option maxHeartbeats 4000000 in
theorem gholds_any (inner : ByteArray) (r : Int) (w : World) (hs : inner.size ≤ 1048577) :
    Calls Tryz.prog 405 #[.string inner, .int .i32 r] w fun e w' => e = .returned (.bool (holdsV (str inner) r)) ∧ Off [] w w' := by
  obtain ⟨i0, hi0, hz0, hz1, hz2⟩ := info_parts infoLit; obtain ⟨t, ht⟩ : ∃ t, bs (if bangs (str inner) then (str inner).tail else str inner) = t := ⟨_, rfl⟩
  have hts : t.size ≤ 1048577 := by
    rw [← ht, bs_size]; have := str_size inner
    split
    · rw [List.length_tail]; omega
    omega
  have HTT := Lib.hid (show (if bangs (str inner) then (str inner).tail else str inner) = str t by rw [← ht, str_bs]); have HCUT := Lib.hid (cutpre_any inner); rw [ht] at HCUT; clear ht; obtain ⟨bg, hbg⟩ : ∃ bg, bangs (str inner) = bg := ⟨_, rfl⟩
  rw [hbg] at HCUT; have HV := Lib.hid (show holdsV (str inner) r = (heldL r (lits false (runesZ (str t))) != bg) by unfold holdsV; rw [HTT.out, hbg]); clear hbg HTT
  go_enter Tryz.func405, Tryz.ntmps405
  go_wp2_with fail
  refine (HCUT.out _).mono ?_
  rintro e w1 ⟨rfl, rfl⟩; clear HCUT
  go_wp2_with fail
  go_loopw [6, 7] (fun x y wr => ∃ (pos : Nat) (v : Value) (esc : Bool) (acc : List (Int × Bool)), x = v ∧ y = .bool esc ∧ wr.heap[w.heap.size]? = some (.stringIter t pos) ∧ Off [] w wr ∧ Hid (wr.ownsRow w.heap.size 469 2 v acc.length (litCells acc)) ∧ acc.length ≤ pos ∧ pos ≤ t.size ∧ Hid (lits false (runesZ (str t)) = acc ++ lits esc (runesZ ((str t).drop pos)))) (fun _ _ wr => t.size - wr.iterPos w.heap.size)
  case atStart => exact ⟨0, _, false, [], rfl, rfl, World.iter_heap w t 0, (Off.refl _ _).alloc _, Lib.hid ⟨rfl, .inl ⟨rfl, rfl⟩⟩, by simp, by omega, Lib.hid rfl⟩
  case round =>
    obtain ⟨pos, v, esc, acc, hx, rfl, hit, ho, HOWN, hal, hpl, HL⟩ := hrel; have hx := hx.symm; subst hx; have HIT := Lib.hid hit; have HO := Lib.hid ho
    by_cases hp : pos < t.size
    · obtain ⟨R, hR⟩ : ∃ R, (Utf8.decode t pos).1 = R := ⟨_, rfl⟩
      obtain ⟨K, hK⟩ : ∃ K, (Utf8.decode t pos).2 = K := ⟨_, rfl⟩
      have hnx : ∀ ty, (Instr.next (.pointer (some ⟨w.heap.size, 0, none⟩)) true ty).run Tryz.prog wr = .ok (.tuple #[.bool true, .int .i64 pos, .int .i32 R]) (wr.iterAt w.heap.size t (pos + K)) := fun ty => by
        rw [Lib.run_next_any_at wr w.heap.size t pos ty hit hp, hR, hK]
      have hne : (str t).drop pos ≠ [] := fun e => by
        have := congrArg List.length e; rw [List.length_drop, str_size, List.length_nil] at this; omega
      have hde := dec_at t pos; have hst := runesZ_step hne; rw [← hde, hR, hK, List.drop_drop] at hst; have HST := Lib.hid hst; have HK := Lib.hid (show 1 ≤ K ∧ K ≤ t.size - pos by
        constructor
        · rw [← hK, hde]; exact Lib.decodeL_width _
        have := Lib.decodeL_le _ hne; rw [← hde, hK, List.length_drop, str_size] at this; exact this)
      have hit2 := Lib.iterAt_heap wr w.heap.size t pos (pos + K) hit; have ho2 := ho.iterAt (Nat.le_refl w.heap.size) t (pos + K); have HIT2 := Lib.hid hit2; have HO2 := Lib.hid ho2; have HOWN2 := Lib.hid (ownsRow_iter HOWN.out hit (pos + K)); clear hit ho hR hK hst hde hne hit2 ho2
      by_cases hr : R = 92
      · have hq : ((R : Int) == 92) = true := by rw [hr]; rfl
        have HR := Lib.hid hr; clear hr
        cases esc
        · go_wp2_with fail
          refine ⟨⟨pos + K, _, true, acc, rfl, rfl, HIT2.out, HO2.out, HOWN2, by omega, by have := HK.out; omega, Lib.hid ?_⟩, ?_⟩
          · rw [HL.out, HST.out, HR.out]; exact congrArg _ (lits_esc _)
          have := HK.out.1; simp only [World.iterPos, HIT2.out, HIT.out]; omega
        go_upto_region 9 with fail
        refine code_gen (fun W => W.heap[w.heap.size]? = some (.stringIter t (pos + K)) ∧ Off [] w W ∧ W.ownsRow w.heap.size 469 2 v acc.length (litCells acc)) ⟨HIT2.out, HO2.out, HOWN2.out⟩ ?_
        rintro W ⟨hit, ho, hown⟩; have HI := Lib.hid hit; have HO3 := Lib.hid ho; have hsz := ho.size; clear hnx hit ho
        go_wp2_with (at_builtin; refine wpList_append_own _ rfl _ _ 467 rfl w.heap.size 469 i0 (.agg #[.int .i32 0, .bool false]) 2 8 Tryz.underlying467 hi0 hz0 hz1 hz2 rfl (by decide) _ _ _ rfl (hown.alloc _) ⟨W.heap.size, 0, none⟩ 1 1 [_, _] rfl rfl (two_at (Blk.new W _ _)) (by simp [Value.oneCell']) (by unfold maxLen; omega) (by omega) (by simp; omega) ?_; intro v' w6 hown' hgrow _)
        have hit6 := iter_grown HI.out hgrow (own_iter hown HI.out); refine ⟨⟨pos + K, _, false, acc ++ [((R : Int), true)], rfl, rfl, hit6, own_off HO3.out hown hgrow, Lib.hid ?_, by have := HK.out; simp; omega, by have := HK.out; omega, Lib.hid ?_⟩, ?_⟩
        · simpa [litCells] using hown'
        · rw [HL.out, HST.out, lits_true, List.append_assoc]; rfl
        have := HK.out.1; simp only [World.iterPos, hit6, HIT.out]; omega
      have hq : ((R : Int) == 92) = false := beq_eq_false_iff_ne.2 (by omega)
      have HR := Lib.hid (show (R : Int) ≠ 92 by omega); clear hr
      cases esc
      · go_upto_region 9 with fail
        refine code_gen (fun W => W.heap[w.heap.size]? = some (.stringIter t (pos + K)) ∧ Off [] w W ∧ W.ownsRow w.heap.size 469 2 v acc.length (litCells acc)) ⟨HIT2.out, HO2.out, HOWN2.out⟩ ?_
        rintro W ⟨hit, ho, hown⟩; have HI := Lib.hid hit; have HO3 := Lib.hid ho; have hsz := ho.size; clear hnx hit ho
        go_wp2_with (at_builtin; refine wpList_append_own _ rfl _ _ 467 rfl w.heap.size 469 i0 (.agg #[.int .i32 0, .bool false]) 2 8 Tryz.underlying467 hi0 hz0 hz1 hz2 rfl (by decide) _ _ _ rfl (hown.alloc _) ⟨W.heap.size, 0, none⟩ 1 1 [_, _] rfl rfl (two_at (Blk.new W _ _)) (by simp [Value.oneCell']) (by unfold maxLen; omega) (by omega) (by simp; omega) ?_; intro v' w6 hown' hgrow _)
        have hit6 := iter_grown HI.out hgrow (own_iter hown HI.out); refine ⟨⟨pos + K, _, false, acc ++ [((R : Int), false)], rfl, rfl, hit6, own_off HO3.out hown hgrow, Lib.hid ?_, by have := HK.out; simp; omega, by have := HK.out; omega, Lib.hid ?_⟩, ?_⟩
        · simpa [litCells] using hown'
        · rw [HL.out, HST.out, lits_false HR.out, List.append_assoc]; rfl
        have := HK.out.1; simp only [World.iterPos, hit6, HIT.out]; omega
      go_upto_region 9 with fail
      refine code_gen (fun W => W.heap[w.heap.size]? = some (.stringIter t (pos + K)) ∧ Off [] w W ∧ W.ownsRow w.heap.size 469 2 v acc.length (litCells acc)) ⟨HIT2.out, HO2.out, HOWN2.out⟩ ?_
      rintro W ⟨hit, ho, hown⟩; have HI := Lib.hid hit; have HO3 := Lib.hid ho; have hsz := ho.size; clear hnx hit ho
      go_wp2_with (at_builtin; refine wpList_append_own _ rfl _ _ 467 rfl w.heap.size 469 i0 (.agg #[.int .i32 0, .bool false]) 2 8 Tryz.underlying467 hi0 hz0 hz1 hz2 rfl (by decide) _ _ _ rfl (hown.alloc _) ⟨W.heap.size, 0, none⟩ 1 1 [_, _] rfl rfl (two_at (Blk.new W _ _)) (by simp [Value.oneCell']) (by unfold maxLen; omega) (by omega) (by simp; omega) ?_; intro v' w6 hown' hgrow _)
      have hit6 := iter_grown HI.out hgrow (own_iter hown HI.out); refine ⟨⟨pos + K, _, false, acc ++ [((R : Int), true)], rfl, rfl, hit6, own_off HO3.out hown hgrow, Lib.hid ?_, by have := HK.out; simp; omega, by have := HK.out; omega, Lib.hid ?_⟩, ?_⟩
      · simpa [litCells] using hown'
      · rw [HL.out, HST.out, lits_true, List.append_assoc]; rfl
      have := HK.out.1; simp only [World.iterPos, hit6, HIT.out]; omega
    have hnx : ∀ ty, (Instr.next (.pointer (some ⟨w.heap.size, 0, none⟩)) true ty).run Tryz.prog wr = .ok (.tuple #[.bool false]) wr := fun ty => Lib.run_next_end_at wr w.heap.size t pos ty hit hp
    have hdn : (str t).drop pos = [] := List.drop_of_length_le (by rw [str_size]; omega)
    have HDN := Lib.hid (show lits false (runesZ (str t)) = acc by rw [HL.out, hdn]; cases esc <;> simp [runesZ, runesF, lits]); obtain ⟨m, hm⟩ : ∃ m, acc.length = m := ⟨_, rfl⟩
    have HM := Lib.hid hm; obtain ⟨pl, cap, rfl, hc1, hc2, hcell⟩ := own_atG HOWN.out; rw [hm] at hc1 hcell hal ⊢; have HCELL := Lib.hid hcell; clear hit ho hdn hcell hm
    go_wp2_with fail
    have HS := Lib.hid (show LitAt wr pl acc from lit_at HCELL.out HM.out); have hgd : Tryz.prog.eqGuardType Tryz.prog.depth 469 = false := by kernel_rfl
    have hmm : m ≤ maxLen := by omega
    clear HCELL
    go_loopw [6] (fun x ws => ws = wr ∧ ∃ (L : List (Int × Bool)) (n : Nat) (a : Option Addr) (c : Nat), x = .slice a n c ∧ L.length = n ∧ n ≤ c ∧ c ≤ maxLen ∧ Hid (LitAt wr a L) ∧ Hid (heldL r acc = heldL r L)) (fun x _ => sliceLen x)
    case atStart => exact ⟨rfl, acc, m, pl, cap, rfl, HM.out, hc1, hc2, HS, Lib.hid rfl⟩
    case round =>
      obtain ⟨rfl, L, n, a, c, rfl, hn, hnc, hcm, HL2, HK⟩ := hrel
      match L, hn with
      | [], hn =>
        obtain rfl : 0 = n := hn
        go_wp2_with fail
        go_ret
        exact ⟨by rw [HV.out, HDN.out, HK.out]; cases bg <;> rfl, HO.out⟩
      | [x0], hn =>
        obtain rfl : 1 = n := hn
        obtain ⟨g, o, rfl, hc⟩ := HL2.out (by simp); obtain ⟨a0, e0⟩ := x0; have c0 := (hc 0 (a0, e0) rfl).1; rw [Nat.zero_mul, Nat.add_zero] at c0; clear hc HL2
        by_cases he : a0 = r
        · have hq : (a0 == r) = true := beq_iff_eq.2 he
          have HE := Lib.hid he; clear he
          go_wp2_with fail
          go_ret
          exact ⟨by rw [HV.out, HDN.out, HK.out, HE.out]; cases bg <;> simp [heldL], HO.out⟩
        have hq : (a0 == r) = false := beq_eq_false_iff_ne.2 he
        have HE := Lib.hid he; clear he
        by_cases hc1 : c = 1
        · subst hc1
          go_wp2_with fail
          exact ⟨⟨trivial, [], 0, _, _, rfl, rfl, by omega, by unfold maxLen; omega, Lib.hid (fun h => absurd rfl h), Lib.hid (by rw [HK.out]; simp [heldL, HE.out])⟩, by simp [sliceLen]⟩
        go_wp2_with fail
        exact ⟨⟨trivial, [], 0, _, _, rfl, rfl, by omega, by omega, Lib.hid (fun h => absurd rfl h), Lib.hid (by rw [HK.out]; simp [heldL, HE.out])⟩, by simp [sliceLen]⟩
      | [x0, x1], hn =>
        obtain rfl : 2 = n := hn
        obtain ⟨g, o, rfl, hc⟩ := HL2.out (by simp); have HT := Lib.hid (LitAt.tail (_k := 0) HL2.out); obtain ⟨a0, e0⟩ := x0; have c0 := (hc 0 (a0, e0) rfl).1; rw [Nat.zero_mul, Nat.add_zero] at c0; clear hc HL2
        by_cases he : a0 = r
        · have hq : (a0 == r) = true := beq_iff_eq.2 he
          have HE := Lib.hid he; clear he
          go_wp2_with fail
          go_ret
          exact ⟨by rw [HV.out, HDN.out, HK.out, HE.out]; cases bg <;> simp [heldL], HO.out⟩
        have hq : (a0 == r) = false := beq_eq_false_iff_ne.2 he
        have HE := Lib.hid he; have hc1 : ¬ c = 1 := by omega
        clear he
        go_wp2_with fail
        exact ⟨⟨trivial, [x1], 1, _, _, rfl, rfl, by omega, by omega, HT, Lib.hid (by rw [HK.out]; simp [heldL, HE.out])⟩, by simp [sliceLen]⟩
      | (a0, e0) :: (a1, e1) :: (a2, e2) :: L3, hn =>
        obtain ⟨g, o, rfl, hc⟩ := HL2.out (by simp); have HT := Lib.hid (LitAt.tail (_k := 0) HL2.out); have HT3 := Lib.hid (LitAt.tail (_k := 0) (LitAt.tail (_k := 0) HT.out)); have c0 := (hc 0 (a0, e0) rfl).1; have c1 := (hc 1 (a1, e1) rfl).1; have c1b := (hc 1 (a1, e1) rfl).2; have c2 := (hc 2 (a2, e2) rfl).1; rw [Nat.zero_mul, Nat.add_zero] at c0
        simp only [Nat.one_mul, Nat.reduceMul] at c1 c1b c2
        have hn3 : n = L3.length + 3 := by rw [← hn]; rfl
        have HN3 := Lib.hid hn3; have hn2 : 2 < n := by omega
        have hn2I : (2 : Int) < n := by omega
        have hn0I : (0 : Int) < n := by omega
        clear hc HL2 hn hn3
        by_cases hd : (a1, e1) = ((45 : Int), false)
        · have hdec := fun W => eqLit (a1, e1) (45, false) W
          rw [decide_eq_true hd] at hdec; have HD := Lib.hid (held_dash (e0 := e0) (e2 := e2) (r := r) (a0 := a0) (a2 := a2) (L := L3) hd); have HI := Lib.hid (lit_if (g := g) (c := c) (o := o) HT3.out (fun h3 => List.length_eq_zero_iff.1 (by have := HN3.out; omega))); clear hd
          go_wp2_with fail
          all_goals first
            | (go_ret
               refine ⟨?_, HO.out⟩
               rw [HV.out, HDN.out, HK.out, HD.out, decide_eq_true (show a0 ≤ r by assumption), decide_eq_true (show r ≤ a2 by assumption)]
               cases bg <;> rfl)
            | exact ⟨⟨trivial, L3, n - 3, _, _, rfl, by have := HN3.out; omega, by omega, by omega, HI, Lib.hid (by
                rw [HK.out, HD.out]
                first
                  | rw [decide_eq_false (show ¬ a0 ≤ r by assumption)]; simp
                  | (rw [decide_eq_false (show ¬ r ≤ a2 by omega)]; simp))⟩, by simp only [sliceLen]; omega⟩
        have hdec := fun W => eqLit (a1, e1) (45, false) W
        rw [decide_eq_false hd] at hdec; have HD := Lib.hid (held_nodash (e0 := e0) (e2 := e2) (r := r) (a0 := a0) (a2 := a2) (L := L3) hd); clear hd
        by_cases he : a0 = r
        · have hq : (a0 == r) = true := beq_iff_eq.2 he
          have HE := Lib.hid he; clear he
          go_wp2_with fail
          go_ret
          exact ⟨by rw [HV.out, HDN.out, HK.out, HD.out, HE.out, decide_eq_true rfl]; cases bg <;> rfl, HO.out⟩
        have hq : (a0 == r) = false := beq_eq_false_iff_ne.2 he
        have HE := Lib.hid he; have hc1 : ¬ c = 1 := by omega
        clear he
        go_wp2_with fail
        exact ⟨⟨trivial, (a1, e1) :: (a2, e2) :: L3, n - 1, _, _, rfl, by have := HN3.out; simp; omega, by omega, by omega, HT, Lib.hid (by rw [HK.out, HD.out, decide_eq_false HE.out, Bool.false_or])⟩, by simp only [sliceLen]; omega⟩
end
section
open Go.RowKit Go.Op
open Go.Lib (validD decodeL)
theorem decS_le (l : Str) : (decS l).2 ≤ l.length := by
  unfold decS
  split
  · rename_i h; rw [h]; exact Nat.le_refl _
  rename_i h; exact Lib.decodeL_le l h
theorem decS_pos {l : Str} (h : l ≠ []) : 1 ≤ (decS l).2 := by
  unfold decS; rw [if_neg h]; exact Lib.decodeL_width l
def oneRet (l : Str) (r : Int) : Ending := .returned (.tuple #[.bool ((elOf l).1.holds r), .string (bs (elOf l).2)])
theorem oneRet_any {l : Str} {r : Int} {c : UInt8} {t : Str} (h : l = c :: t) (hc : c = 63) : oneRet l r = .returned (.tuple #[.bool true, .string (bs t)]) := by
  have hh : l.head? = some 63 := by rw [h, hc]; rfl
  have e : elOf l = (.any, t) := by unfold elOf; rw [if_pos hh, h]; rfl
  unfold oneRet; rw [e]
  rfl
theorem oneRet_cls {l : Str} {r : Int} {c : UInt8} {t : Str} (h : l = c :: t) (hc : c = 91) : oneRet l r = .returned (.tuple #[.bool (holdsV (setV l).1 r), .string (bs (setV l).2.1)]) := by
  have hh : l.head? = some 91 := by rw [h, hc]; rfl
  have e : elOf l = (.cls (setV l).1, (setV l).2.1) := by unfold elOf; rw [if_neg (by rw [hh]; decide), if_pos hh]
  unfold oneRet; rw [e]
  rfl
theorem oneRet_esc {l : Str} {r : Int} {c : UInt8} {t : Str} (h : l = c :: t) (hc : c = 92) : oneRet l r = .returned (.tuple #[.bool (decide (((decS t).1 : Int) = r)), .string (bs (t.drop (decS t).2))]) := by
  have hh : l.head? = some 92 := by rw [h, hc]; rfl
  have e : elOf l = (.lit (decS t).1, t.drop (decS t).2) := by
    unfold elOf; rw [if_neg (by rw [hh]; decide), if_neg (by rw [hh]; decide), if_pos hh, h]
    rfl
  unfold oneRet; rw [e]
  rfl
theorem oneRet_lit {l : Str} {r : Int} {c : UInt8} {t : Str} (h : l = c :: t) (h1 : c ≠ 63) (h2 : c ≠ 91) (h3 : c ≠ 92) : oneRet l r = .returned (.tuple #[.bool (decide (((decS l).1 : Int) = r)), .string (bs (l.drop (decS l).2))]) := by
  unfold oneRet elOf; have hh : l.head? = some c := by rw [h]; rfl
  rw [hh, if_neg (by simpa using h1), if_neg (by simpa using h2), if_neg (by simpa using h3)]
  rfl
set_option maxRecDepth 100000 in
set_option maxHeartbeats 4000000 in
theorem gone_any (p : ByteArray) (r : Int) (w : World) (h1 : 1 ≤ p.size) (hs : p.size ≤ 1048576) (hT : Tabs w) :
    Calls Tryz.prog 391 #[.string p, .int .i32 r] w fun e w' => e = oneRet (str p) r ∧ Off [] w w' := by
  have HT := Lib.hid hT; obtain ⟨x, hx⟩ : ∃ x : UInt8, p[0]'(by omega) = x := ⟨_, rfl⟩
  have hg : (str p)[0]? = some x := by rw [← hx]; exact get_str p 0 (by omega)
  have HX := Lib.hid (show str p = x :: (str p).drop 1 by
    have := drop_cons hg; rw [List.drop_zero] at this; exact this)
  have hxb := x.toNat_lt; have h1I : (1 : Int) ≤ p.size := by omega
  have h0I : (0 : Int) < p.size := by omega
  have h0N : 0 < p.size := by omega
  clear hT hg
  by_cases c1 : x.toNat = 63
  · have f1 : ((x.toNat : Int) == 63) = true := by rw [c1]; rfl
    have HC := Lib.hid (byte_is (n := 63) (by omega) c1); clear c1
    go_enter Tryz.func391, Tryz.ntmps391
    go_wp2_with fail
    go_quiet (fail)
    go_wp2_with fail
    go_ret2
    refine ⟨?_, (Off.refl _ _).drewN _⟩
    rw [oneRet_any HX.out HC.out, ← str_drop, bs_str]
    rfl
  have f1 : ((x.toNat : Int) == 63) = false := beq_eq_false_iff_ne.2 (by omega)
  have HC1 := Lib.hid (byte_ne (n := 63) (by omega) c1)
  by_cases c2 : x.toNat = 91
  · have f2 : ((x.toNat : Int) == 91) = true := by rw [c2]; rfl
    have HC := Lib.hid (byte_is (n := 91) (by omega) c2); clear c1 c2; have HSET := Lib.hid (fun W => gset_any p W h1 hs)
    go_enter Tryz.func391, Tryz.ntmps391
    go_wp2_with fail
    refine (HSET.out _).mono ?_
    rintro e w1 ⟨rfl, ho1⟩; have HO1 := Lib.hid ho1; clear ho1; unfold setRet
    go_wp2_with fail
    refine (gholds_any _ r _ (by rw [bs_size]; have := setV_in (str p); rw [str_size] at this; omega)).mono ?_
    rintro e w2 ⟨rfl, ho2⟩; have HO2 := Lib.hid ho2; clear ho2
    go_wp2_with fail
    go_ret2
    refine ⟨?_, HO1.out.trans_nil HO2.out⟩
    rw [oneRet_cls HX.out HC.out, str_bs]
    rfl
  have f2 : ((x.toNat : Int) == 91) = false := beq_eq_false_iff_ne.2 (by omega)
  have HC2 := Lib.hid (byte_ne (n := 91) (by omega) c2)
  by_cases c3 : x.toNat = 92
  · have f3 : ((x.toNat : Int) == 92) = true := by rw [c3]; rfl
    have HC := Lib.hid (byte_is (n := 92) (by omega) c3); obtain ⟨q, hq⟩ : ∃ q, p.extract 1 p.size = q := ⟨_, rfl⟩
    have HQ := Lib.hid (show str q = (str p).drop 1 by rw [← hq, str_drop]); obtain ⟨R, hR⟩ : ∃ R, (decS (str q)).1 = R := ⟨_, rfl⟩
    obtain ⟨K, hK⟩ : ∃ K, (decS (str q)).2 = K := ⟨_, rfl⟩
    have hKle : (K : Int) ≤ q.size := by have := decS_le (str q); rw [hK, str_size] at this; omega
    have hK0 : (0 : Int) ≤ K := by omega
    have HD := Lib.hid (fun W hW => decU_any q W hW); rw [hR, hK] at HD; have HE := Lib.hid (oneRet_esc (r := r) HX.out HC.out); rw [← HQ.out, hR, hK] at HE; rw [HE.out]; clear c1 c2 c3 hR hK
    go_enter Tryz.func391, Tryz.ntmps391
    go_wp2_with fail
    clear hq; refine (HD.out _ HT.out).mono ?_; rintro e w1 ⟨rfl, ho1⟩; have HO1 := Lib.hid ho1; clear ho1
    go_wp2_with fail
    go_quiet (fail)
    go_wp2_with fail
    go_ret2
    refine ⟨?_, HO1.out.drewN _⟩
    rw [← str_drop, bs_str]
    rfl
  have f3 : ((x.toNat : Int) == 92) = false := beq_eq_false_iff_ne.2 (by omega)
  have HC3 := Lib.hid (byte_ne (n := 92) (by omega) c3); obtain ⟨R, hR⟩ : ∃ R, (decS (str p)).1 = R := ⟨_, rfl⟩
  obtain ⟨K, hK⟩ : ∃ K, (decS (str p)).2 = K := ⟨_, rfl⟩
  have hKle : (K : Int) ≤ p.size := by have := decS_le (str p); rw [hK, str_size] at this; omega
  have hK0 : (0 : Int) ≤ K := by omega
  have HD := Lib.hid (fun W hW => decU_any p W hW); rw [hR, hK] at HD; have HE := Lib.hid (oneRet_lit (r := r) HX.out HC1.out HC2.out HC3.out); rw [hR, hK] at HE; rw [HE.out]; clear c1 c2 c3 hR hK
  go_enter Tryz.func391, Tryz.ntmps391
  go_wp2_with fail
  refine (HD.out _ HT.out).mono ?_
  rintro e w1 ⟨rfl, ho1⟩; have HO1 := Lib.hid ho1; clear ho1
  go_wp2_with fail
  go_quiet (fail)
  go_wp2_with fail
  go_ret2
  refine ⟨?_, HO1.out.drewN _⟩
  rw [← str_drop, bs_str]
  rfl
end
section
open Go.RowKit Go.Op
open Go.Lib (validD decodeL)
theorem dropW_nil (q : UInt8 → Bool) : ∀ l : Str, l.dropWhile q = [] ↔ ∀ x ∈ l, q x = true
  | [] => by simp
  | c :: l => by
    rw [List.dropWhile_cons]
    cases h : q c
    · rw [if_neg (by simp)]
      constructor
      · intro e; cases e
      intro e; have := e c (by simp); rw [h] at this; cases this
    rw [if_pos rfl, dropW_nil q l]
    constructor
    · intro e x hx
      rcases List.mem_cons.1 hx with rfl | hx
      · exact h
      exact e x hx
    intro e x hx; exact e x (List.mem_cons_of_mem _ hx)
theorem trim_stars (l : Str) : (Lib.trimB l 42 = []) ↔ l.all (· == 42) = true := by
  unfold Lib.trimB Lib.trimLeftB Lib.trimRightB; rw [dropW_nil]
  constructor
  · intro h
    by_cases hr : l.reverse.dropWhile (· == 42) = []
    · rw [dropW_nil] at hr
      rw [List.all_eq_true]
      intro x hx
      exact hr x (by simpa using hx)
    have h1 := List.head_dropWhile_not (fun x : UInt8 => x == 42) hr; have h2 := h _ (List.mem_reverse.2 (List.head_mem hr)); rw [h1] at h2
    cases h2
  intro h x hx
  rw [List.all_eq_true] at h; refine h x ?_; have := (List.dropWhile_sublist (fun x : UInt8 => x == 42) (l := l.reverse)).subset (List.mem_reverse.1 hx)
  simpa using this
theorem trim_beq (l : Str) : (⟨(Lib.trimB l 42).toArray⟩ : ByteArray).toList.isEmpty = l.all (· == 42) := by
  rw [toList_str]
  show (Lib.trimB l 42).isEmpty = _
  rw [Bool.eq_iff_iff, List.isEmpty_iff]; exact trim_stars l
def boolOf (v : Value) : Bool := match v with | .bool b => b | _ => false
theorem meas_lt {F F' S a b : Nat} (h : F' < F) (ha : a ≤ S) : F' * (S + 1) + a < F * (S + 1) + b := by
  have := Nat.mul_le_mul_right (S + 1) (show F' + 1 ≤ F from h); rw [Nat.add_mul, Nat.one_mul] at this; omega
theorem meas_le {F F' S a b : Nat} (h : F' ≤ F) (ha : a < b) : F' * (S + 1) + a < F * (S + 1) + b := by
  have := Nat.mul_le_mul_right (S + 1) h; omega
def partMeas (S N : Nat) (p n fr : Value) (st : Value) : Nat := (if boolOf st then strLen fr else N + 1) * (S + 1) + (strLen p + strLen n)
structure PartI (p0 n0 p n ag fr : ByteArray) (st : Bool) : Prop where
  ps : p.size ≤ p0.size
  ns : n.size ≤ n0.size
  as_ : ag.size ≤ p0.size
  fs : fr.size ≤ n0.size
  nf : st = true → n.size ≤ fr.size
  at_ : st = true → AtTry (pts (str p)) (runesZ (str n)) (pts (str ag)) (runesZ (str fr))
  eq : gpartV (str p0) (str n0) = true ↔ tries (pts (str p)) (runesZ (str n)) st (pts (str ag)) (runesZ (str fr))
section
variable {p0 n0 p n ag fr : ByteArray} {st : Bool}
theorem PartI.start : PartI p0 n0 p0 n0 ⟨#[]⟩ ⟨#[]⟩ false := ⟨Nat.le_refl _, Nat.le_refl _, Nat.zero_le _, Nat.zero_le _, fun h => (by cases h), fun h => (by cases h), by
  unfold tries gpartV; simp⟩
theorem PartI.star {q : ByteArray} {t : Str} (h : PartI p0 n0 p n ag fr st) (hp : str p = 42 :: t) (hq : str q = t) (hqs : q.size ≤ p.size) : PartI p0 n0 q n q n true := by
  have e : pts (str p) = .star :: pts (str q) := by rw [hp, pts_step (by simp), if_pos (show (42 :: t : Str).head? = some 42 from rfl), hq]; rfl
  refine ⟨Nat.le_trans hqs h.ps, h.ns, Nat.le_trans hqs h.ps, h.ns, fun _ => Nat.le_refl _, fun _ => AtTry.again _ _, ?_⟩
  have h1 := h.at_; rw [h.eq, e]; rw [e] at h1; exact tries_star h1
theorem PartI.el {q m : ByteArray} {r : Int} {l : List Int} (h : PartI p0 n0 p n ag fr st) (hp : str p ≠ []) (hs : (str p).head? ≠ some 42) (hr : runesZ (str n) = r :: l) (he : (elOf (str p)).1.holds r = true) (hq : str q = (elOf (str p)).2) (hm : runesZ (str m) = l) (hqs : q.size ≤ p.size) (hms : m.size ≤ n.size) : PartI p0 n0 q m ag fr st := by
  have e : pts (str p) = .el (elOf (str p)).1 :: pts (str q) := by rw [pts_step hp, if_neg hs, hq]
  refine ⟨Nat.le_trans hqs h.ps, Nat.le_trans hms h.ns, h.as_, h.fs, fun hst => Nat.le_trans hms (h.nf hst), fun hst => ?_, ?_⟩
  · have h1 := h.at_ hst
    rw [e, hr] at h1; rw [hm]; exact h1.el
  rw [h.eq, e, hr, hm]; exact tries_el he
theorem match_none {r : Int} {l : List Int} (hs : (str p).head? ≠ some 42) (hr : runesZ (str n) = r :: l) (he : str p ≠ [] → (elOf (str p)).1.holds r = false) : matchP (pts (str p)) (runesZ (str n)) = false := by
  by_cases hp : str p = []
  · rw [hp, pts_nil, hr, matchP]; rfl
  rw [pts_step hp, if_neg hs, hr, matchP, he hp]; rfl
theorem PartI.over {r : Int} {l : List Int} (h : PartI p0 n0 p n ag fr false) (hs : (str p).head? ≠ some 42) (hr : runesZ (str n) = r :: l) (he : str p ≠ [] → (elOf (str p)).1.holds r = false) : gpartV (str p0) (str n0) = false := by
  cases hx : gpartV (str p0) (str n0)
  · rfl
  exact absurd (h.eq.1 hx) (tries_none (match_none hs hr he))
theorem PartI.src {r : Int} {l : List Int} (h : PartI p0 n0 p n ag fr true) (hr : runesZ (str n) = r :: l) : str fr ≠ [] := fun e => by
  have := h.at_ rfl; rw [hr] at this; exact this.some (by rw [e]; rfl)
theorem PartI.again {r : Int} {l : List Int} {f2 : ByteArray} (h : PartI p0 n0 p n ag fr true) (hs : (str p).head? ≠ some 42) (hr : runesZ (str n) = r :: l) (he : str p ≠ [] → (elOf (str p)).1.holds r = false) (hf : str f2 = (str fr).drop (decS (str fr)).2) (hfs : f2.size ≤ fr.size) : PartI p0 n0 ag f2 ag f2 true := by
  have hne := h.src hr; have e : runesZ (str fr) = ((decodeL (str fr)).1 : Int) :: runesZ (str f2) := by
    rw [runesZ_step hne, hf]; unfold decS; rw [if_neg hne]
  refine ⟨h.as_, Nat.le_trans hfs h.fs, h.as_, Nat.le_trans hfs h.fs, fun _ => Nat.le_refl _, fun _ => AtTry.again _ _, ?_⟩
  rw [h.eq, e]; exact tries_again (match_none hs hr he)
theorem PartI.end_ (h : PartI p0 n0 p n ag fr st) (hn : str n = []) : gpartV (str p0) (str n0) = (str p).all (· == 42) := by
  have h1 := h.at_; have h2 := h.eq; rw [hn, runesZ_nil] at h1 h2; rw [← matchP_nil, Bool.eq_iff_iff, h2]; exact tries_end h1
end
set_option maxRecDepth 100000 in
set_option maxHeartbeats 4000000 in
theorem gpart_any (p0 n0 : ByteArray) (w : World) (hp : p0.size ≤ 1048576) (_hn : n0.size ≤ 1048576) (hT : Tabs w) :
    Calls Tryz.prog 356 #[.string p0, .string n0] w fun e w' => e = .returned (.bool (gpartV (str p0) (str n0))) ∧ Off [] w w' := by
  have HT := Lib.hid hT; clear hT
  go_enter Tryz.func356, Tryz.ntmps356
  go_wp2_with fail
  go_loopw [0, 1, 5, 6, 7] (fun x y z u v wr => ∃ (p n ag fr : ByteArray) (st : Bool), x = .string p ∧ y = .string n ∧ z = .string ag ∧ u = .string fr ∧ v = .bool st ∧ Off [] w wr ∧ Hid (PartI p0 n0 p n ag fr st)) (fun x y z u v _ => partMeas (p0.size + n0.size) n0.size x y u v)
  case atStart => exact ⟨p0, n0, _, _, false, rfl, rfl, rfl, rfl, rfl, Off.refl _ _, Lib.hid PartI.start⟩
  case round =>
    obtain ⟨p, n, ag, fr, st, rfl, rfl, rfl, rfl, rfl, ho, HI⟩ := hrel; have HO := Lib.hid ho; have hps := HI.out.ps; have hns := HI.out.ns; have has := HI.out.as_; have hfs := HI.out.fs; have hne : n.toList = [] ↔ str n = [] := by rw [toList_str]
    by_cases hn0 : str n = []
    · have g3 : n.toList = [] := hne.2 hn0
      have g4 : n.toList.isEmpty = true := by rw [g3]; rfl
      have HN := Lib.hid hn0; clear hne hn0 ho
      go_wp2_with fail
      refine (Tryz.strings_Trim_one p 42 (by decide) _ (by omega)).mono ?_
      rintro e w1 ⟨rfl, hw⟩; have ho1 : Off [] w w1 := by
        rcases hw with rfl | rfl
        · exact HO.out
        exact HO.out.drew
      have HO1 := Lib.hid ho1; clear hw ho1; have HE := Lib.hid (HI.out.end_ HN.out); have hb := trim_beq (str p); have HB := Lib.hid (show (⟨(Lib.trimB p.data.toList 42).toArray⟩ : ByteArray).toList.isEmpty = gpartV (str p0) (str n0) by rw [HE.out]; exact hb); obtain ⟨z, hz⟩ : ∃ z : ByteArray, (⟨(Lib.trimB p.data.toList 42).toArray⟩ : ByteArray) = z := ⟨_, rfl⟩
      rw [hz] at HB ⊢; clear hb hz
      go_wp2_with fail
      go_ret
      refine ⟨?_, HO1.out⟩
      rw [← HB.out]
      rfl
    have g3 : ¬ n.toList = [] := fun e => hn0 (hne.1 e)
    have g4 : n.toList.isEmpty = false := by simpa using g3
    have hnl := str_size n; have hn1 : 1 ≤ n.size := by
      have := List.length_pos_iff.2 hn0; omega
    obtain ⟨R, hR⟩ : ∃ R, (decS (str n)).1 = R := ⟨_, rfl⟩
    obtain ⟨K, hK⟩ : ∃ K, (decS (str n)).2 = K := ⟨_, rfl⟩
    have hKle : (K : Int) ≤ n.size := by have := decS_le (str n); rw [hK, hnl] at this; omega
    have hK0 : (0 : Int) ≤ K := by omega
    have hK1 : 1 ≤ K := by have := decS_pos hn0; rw [hK] at this; exact this
    have HD := Lib.hid (fun W hW => decU_any n W hW); rw [hR, hK] at HD; have HRZ := Lib.hid (show runesZ (str n) = (R : Int) :: runesZ (str (n.extract K n.size)) by
      rw [runesZ_step hn0, str_drop]; unfold decS at hR hK; rw [if_neg hn0] at hR hK; rw [hR, hK])
    have HNS := Lib.hid (show (n.extract K n.size).size = n.size - K by simp); clear hne hn0 g3 hR hK hnl ho; have hpre : Lib.hasPrefix p.data.toList (⟨#[42]⟩ : ByteArray).data.toList = decide ((str p).head? = some 42) := by
      show [42].isPrefixOf (str p) = _
      cases hsp : str p with
      | nil => rfl
      | cons c l =>
        show ((42 : UInt8) == c && true) = _
        rw [Bool.and_true, Bool.eq_iff_iff, beq_iff_eq, decide_eq_true_eq, List.head?_cons, Option.some.injEq, eq_comm]
    by_cases hst : (str p).head? = some 42
    · obtain ⟨t, ht⟩ : ∃ t, str p = 42 :: t := by
        cases hsp : str p with
        | nil => rw [hsp] at hst; cases hst
        | cons c l => rw [hsp] at hst; simp at hst; exact ⟨l, by rw [hst]⟩
      have HPRE := Lib.hid (show Lib.hasPrefix p.data.toList (⟨#[42]⟩ : ByteArray).data.toList = true by rw [hpre, decide_eq_true hst]); have hp1 : (1 : Int) ≤ p.size := by rw [← str_size, ht]; simp; omega
      have HQ := Lib.hid (HI.out.star (q := p.extract 1 p.size) ht (by rw [str_drop, ht]; rfl) (by simp)); clear hpre hst ht
      go_wp2_with fail
      refine (Tryz.strings_HasPrefix _ _ _).mono ?_
      rintro e w1 ⟨rfl, ew⟩; rw [ew, HPRE.out]; clear ew
      go_wp2_with fail
      refine ⟨⟨_, n, _, n, true, rfl, rfl, rfl, rfl, rfl, HO.out, HQ⟩, ?_⟩
      have hnf := HI.out.nf; unfold partMeas; refine meas_le ?_ ?_
      · simp only [boolOf, strLen]
        cases st
        · simp; omega
        simpa using hnf rfl
      simp only [strLen]
      have : (p.extract 1 p.size).size = p.size - 1 := by simp
      omega
    have HPRE := Lib.hid (show Lib.hasPrefix p.data.toList (⟨#[42]⟩ : ByteArray).data.toList = false by rw [hpre, decide_eq_false hst]); have HST := Lib.hid (show (str p).head? ≠ some 42 from hst); have hpe : p.toList = [] ↔ str p = [] := by rw [toList_str]
    clear hpre hst; obtain ⟨f2, hf2⟩ : ∃ f2, fr.extract (decS (str fr)).2 fr.size = f2 := ⟨_, rfl⟩
    have hFK : ((decS (str fr)).2 : Int) ≤ fr.size := by have := decS_le (str fr); rw [str_size] at this; omega
    have hFS : f2.size = fr.size - (decS (str fr)).2 := by rw [← hf2]; simp
    have HF2 := Lib.hid (show str f2 = (str fr).drop (decS (str fr)).2 by rw [← hf2, str_drop]); have HF2A := HF2; have HFS := Lib.hid hFS; have hF0 : (0 : Int) ≤ ((decS (str fr)).2 : Nat) := by omega
    obtain ⟨FR, hFR⟩ : ∃ FR, (decS (str fr)).1 = FR := ⟨_, rfl⟩
    obtain ⟨FK, hFKe⟩ : ∃ FK, (decS (str fr)).2 = FK := ⟨_, rfl⟩
    have HFD := Lib.hid (fun W hW => decU_any fr W hW); have HFP := Lib.hid (fun (h : str fr ≠ []) => decS_pos h); rw [hFR, hFKe] at HFD; rw [hFKe] at hFK HF2 HFS hF0 hf2 HFP; clear hFS hFR hFKe
    by_cases hp0 : str p = []
    · have q3 : p.toList = [] := hpe.2 hp0
      have q4 : p.toList.isEmpty = true := by rw [q3]; rfl
      have HP0 := Lib.hid (show str p ≠ [] → (elOf (str p)).1.holds R = false from fun h => absurd hp0 h); clear hpe hp0
      go_wp2_with fail
      refine (Tryz.strings_HasPrefix _ _ _).mono ?_
      rintro e w1 ⟨rfl, ew⟩; rw [ew, HPRE.out]; clear ew
      go_wp2_with fail
      refine (HD.out _ (HT.out.off HO.out)).mono ?_
      rintro e w2 ⟨rfl, ho2⟩; have HO2 := Lib.hid (HO.out.trans_nil ho2); clear ho2
      cases st
      · go_wp2_with fail
        go_ret
        exact ⟨by rw [HI.out.over HST.out HRZ.out HP0.out]; rfl, HO2.out⟩
      go_wp2_with fail
      refine (HFD.out _ (HT.out.off HO2.out)).mono ?_
      rintro e w3 ⟨rfl, ho3⟩; have HO3 := Lib.hid (HO2.out.trans_nil ho3); clear ho3
      go_wp2_with fail
      refine ⟨⟨ag, f2, ag, f2, true, rfl, rfl, rfl, rfl, rfl, HO3.out, Lib.hid (HI.out.again HST.out HRZ.out HP0.out HF2A.out (by rw [HFS.out]; omega))⟩, ?_⟩
      have hfp := HFP.out (HI.out.src HRZ.out); unfold partMeas; refine meas_lt ?_ ?_
      · simp only [boolOf, strLen, if_true]
        have := HFS.out; omega
      simp only [strLen]
      have := HFS.out; omega
    have q3 : ¬ p.toList = [] := fun e => hp0 (hpe.1 e)
    have q4 : p.toList.isEmpty = false := by simpa using q3
    have hp1 : 1 ≤ p.size := by
      have h1 := List.length_pos_iff.2 hp0; have h2 := str_size p; omega
    obtain ⟨q, hq⟩ : ∃ q, bs (elOf (str p)).2 = q := ⟨_, rfl⟩
    have HQ := Lib.hid (show str q = (elOf (str p)).2 by rw [← hq, str_bs]); have HQS := Lib.hid (show q.size < p.size by
      have h1 := elOf_rest (str p) hp0; rw [← HQ.out, str_size, str_size] at h1; exact h1)
    have HPN := Lib.hid hp0; obtain ⟨ok, hok⟩ : ∃ ok, (elOf (str p)).1.holds R = ok := ⟨_, rfl⟩
    have HOK := Lib.hid hok; have HONE := Lib.hid (fun W hW => gone_any p R W hp1 (by omega) hW); unfold oneRet at HONE; rw [hq, hok] at HONE; clear hpe hp0 q3 hq hok
    go_wp2_with fail
    refine (Tryz.strings_HasPrefix _ _ _).mono ?_
    rintro e w1 ⟨rfl, ew⟩; rw [ew, HPRE.out]; clear ew
    go_wp2_with fail
    refine (HD.out _ (HT.out.off HO.out)).mono ?_
    rintro e w2 ⟨rfl, ho2⟩; have HO2 := Lib.hid (HO.out.trans_nil ho2); clear ho2
    go_wp2_with fail
    refine (HONE.out _ (HT.out.off HO2.out)).mono ?_
    rintro e w3 ⟨rfl, ho3⟩; have HO3 := Lib.hid (HO2.out.trans_nil ho3); clear ho3
    cases ok
    · have HP0 := Lib.hid (show str p ≠ [] → (elOf (str p)).1.holds R = false from fun _ => HOK.out)
      cases st
      · go_wp2_with fail
        go_ret
        exact ⟨by rw [HI.out.over HST.out HRZ.out HP0.out]; rfl, HO3.out⟩
      go_wp2_with fail
      refine (HFD.out _ (HT.out.off HO3.out)).mono ?_
      rintro e w4 ⟨rfl, ho4⟩; have HO4 := Lib.hid (HO3.out.trans_nil ho4); clear ho4
      go_wp2_with fail
      refine ⟨⟨ag, f2, ag, f2, true, rfl, rfl, rfl, rfl, rfl, HO4.out, Lib.hid (HI.out.again HST.out HRZ.out HP0.out HF2A.out (by rw [HFS.out]; omega))⟩, ?_⟩
      have hfp := HFP.out (HI.out.src HRZ.out); unfold partMeas; refine meas_lt ?_ ?_
      · simp only [boolOf, strLen, if_true]
        have := HFS.out; omega
      simp only [strLen]
      have := HFS.out; omega
    go_wp2_with fail
    go_quiet (fail)
    go_wp2_with fail
    refine ⟨⟨q, _, ag, fr, st, rfl, rfl, rfl, rfl, rfl, HO3.out.drewN _, Lib.hid (HI.out.el HPN.out HST.out HRZ.out HOK.out HQ.out rfl (by have := HQS.out; omega) (by have := HNS.out; omega))⟩, ?_⟩
    unfold partMeas; refine meas_le (Nat.le_refl _) ?_; simp only [strLen]; have h1 := HQS.out; have h2 := HNS.out; omega
end
section
open Go.RowKit Go.Op Go.Maps Go.Sort
def StrB (w : World) (p : Option Addr) (L : List ByteArray) : Prop :=
  L ≠ [] → ∃ g, p = some ⟨g, 0, none⟩ ∧ (∃ cs, Blk w g 9 cs) ∧ ∀ (i : Nat) (x : ByteArray), L[i]? = some x → w.cell? ⟨g, i, none⟩ = some (.string x)
theorem StrB.off {w w' : World} {p : Option Addr} {L : List ByteArray} {gm : Nat} (h : StrB w p L) (hm : IsMapB w gm) (ho : Off [gm] w w') : StrB w' p L := fun hne => by
  obtain ⟨g, rfl, ⟨cs, hB⟩, hc⟩ := h hne; have hg : g ∉ [gm] := by
    simp
    exact (hm.ne hB).symm
  exact ⟨g, rfl, ⟨cs, hB.off ho hg⟩, fun i x hx => (ho.cell (p := ⟨g, i, none⟩) hB.lt hg).trans (hc i x hx)⟩
def strsOf (L : List ByteArray) : List Str := L.map str
structure PW (w : World) (g2 g3 g5 g6 gm : Nat) (pp np : Option Addr) (pc nc : Nat) (P N : List ByteArray) : Prop where
  b2 : Blk w g2 45 #[.slice pp P.length pc]
  b3 : Blk w g3 45 #[.slice np N.length nc]
  b5 : Blk w g5 441 #[.map (some gm)]
  b6 : Blk w g6 442 #[.func (.func 389) #[] #[.pointer (some ⟨g2, 0, none⟩), .pointer (some ⟨g3, 0, none⟩), .pointer (some ⟨g5, 0, none⟩), .pointer (some ⟨g6, 0, none⟩)]]
  sp : StrB w pp P
  sn : StrB w np N
  m : SMat w gm P.length N.length fun i j => gpartsV ((strsOf P).drop i) ((strsOf N).drop j) = false
  tabs : Tabs w
section
variable {w w' : World} {g2 g3 g5 g6 gm pc nc : Nat} {pp np : Option Addr} {P N : List ByteArray}
theorem SMat.isMap {b A B : Nat} {Bad : Nat → Nat → Prop} (h : SMat w b A B Bad) : IsMapB w b := by
  obtain ⟨_, D, ⟨es, c, hh, _⟩, _⟩ := h; exact ⟨es, c, hh⟩
theorem PW.next (h : PW w g2 g3 g5 g6 gm pp np pc nc P N) (ho : Off [gm] w w') (hm : SMat w' gm P.length N.length fun i j => gpartsV ((strsOf P).drop i) ((strsOf N).drop j) = false) (hT : Tabs w') : PW w' g2 g3 g5 g6 gm pp np pc nc P N := by
  have hi := h.m.isMap; have ne : ∀ {g t cs}, Blk w g t cs → g ∉ [gm] := fun hB => by simp; exact (hi.ne hB).symm
  exact ⟨h.b2.off ho (ne h.b2), h.b3.off ho (ne h.b3), h.b5.off ho (ne h.b5), h.b6.off ho (ne h.b6), h.sp.off hi ho, h.sn.off hi ho, hm, hT⟩
theorem PW.off (h : PW w g2 g3 g5 g6 gm pp np pc nc P N) (ho : Off [] w w') : PW w' g2 g3 g5 g6 gm pp np pc nc P N :=
  h.next (ho.mono fun _ _ h => by cases h) (h.m.off ho (by simp)) (h.tabs.off ho)
theorem Tabs.step {gm : Nat} (h : Tabs w) (ho : Off [gm] w w') (hm : IsMapB w gm) : Tabs w' := by
  have key : ∀ {p : Addr} {v : Value}, p.block = gm → w.cell? p = some v → False := fun {p v} e hc => by
    obtain ⟨es, c, hh⟩ := hm; obtain ⟨b, o, sp⟩ := p; dsimp only at e; subst e; simp [World.cell?, hh] at hc
  have one : ∀ {p : Addr} {v : Value}, w.cell? p = some v → w'.cell? p = some v := fun {p v} hc => (ho.cell (World.block_lt_of_cell? _ _ hc) (by
    intro hx
    rw [List.mem_singleton] at hx; exact key hx hc)).trans hc
  exact ⟨fun c hc => one (h.1 c hc), fun i hi => ⟨one (h.2 i hi).1, one (h.2 i hi).2⟩⟩
def PPost (w : World) (g2 g3 g5 g6 gm : Nat) (pp np : Option Addr) (pc nc : Nat) (P N : List ByteArray) (i j : Nat) (e : Ending) (w' : World) : Prop :=
  e = .returned (.bool (gpartsV ((strsOf P).drop i) ((strsOf N).drop j))) ∧ PW w' g2 g3 g5 g6 gm pp np pc nc P N ∧ Off [gm] w w'
theorem gp_end {P N : List Str} {i j : Nat} (hi : i = P.length) (hj : j ≤ N.length) : gpartsV (P.drop i) (N.drop j) = decide (j = N.length) := by
  have h1 : P.drop i = [] := List.drop_of_length_le (by omega)
  rw [h1, gpartsV, Bool.eq_iff_iff, List.isEmpty_iff, List.drop_eq_nil_iff, decide_eq_true_eq]; omega
theorem gp_stars {P N : List Str} {i j : Nat} (hi : P[i]? = some [42, 42]) (hj : j ≤ N.length) : gpartsV (P.drop i) (N.drop j) = (gpartsV (P.drop (i + 1)) (N.drop j) || (decide (j < N.length) && gpartsV (P.drop i) (N.drop (j + 1)))) := by
  have h1 : P.drop i = [42, 42] :: P.drop (i + 1) := by
    obtain ⟨h5, h6⟩ := List.getElem?_eq_some_iff.1 hi; rw [List.drop_eq_getElem_cons h5, h6]
  by_cases hjn : j < N.length
  · have h2 : N.drop j = N[j] :: N.drop (j + 1) := List.drop_eq_getElem_cons hjn
    rw [decide_eq_true hjn, Bool.true_and]
    conv => lhs; rw [h1, h2]
    rw [gpartsV, if_pos rfl, ← h2, ← h1]
  rw [decide_eq_false hjn, Bool.false_and, Bool.or_false, List.drop_of_length_le (show N.length ≤ j by omega)]
  conv => lhs; rw [h1]
  rw [gpartsV, decide_eq_true rfl, Bool.true_and]
theorem gp_part {P N : List Str} {i j : Nat} {q x : Str} (hi : P[i]? = some q) (hq : q ≠ [42, 42]) (hx : N[j]? = some x) : gpartsV (P.drop i) (N.drop j) = (gpartV q x && gpartsV (P.drop (i + 1)) (N.drop (j + 1))) := by
  obtain ⟨h5, h6⟩ := List.getElem?_eq_some_iff.1 hi; obtain ⟨h7, h8⟩ := List.getElem?_eq_some_iff.1 hx; rw [List.drop_eq_getElem_cons h5, h6, List.drop_eq_getElem_cons h7, h8, gpartsV, if_neg hq]
theorem gp_none {P N : List Str} {i j : Nat} {q : Str} (hi : P[i]? = some q) (hq : q ≠ [42, 42]) (hj : j = N.length) : gpartsV (P.drop i) (N.drop j) = false := by
  obtain ⟨h5, h6⟩ := List.getElem?_eq_some_iff.1 hi; have h1 : N.drop j = [] := List.drop_of_length_le (by omega)
  rw [List.drop_eq_getElem_cons h5, h6, h1, gpartsV, decide_eq_false hq, Bool.false_and]
theorem strs_get {L : List ByteArray} {i : Nat} {x : ByteArray} (h : L[i]? = some x) : (strsOf L)[i]? = some (str x) := by unfold strsOf; rw [List.getElem?_map, h]; rfl
theorem strs_len (L : List ByteArray) : (strsOf L).length = L.length := by unfold strsOf; rw [List.length_map]
structure DTell (f : FuncId) (args : Array Value) (w0 : World) (Q : World → Ending → World → Prop) : Prop where
  call : ∀ W, Off [] w0 W → Calls Tryz.prog f args W (Q W)
theorem dtell_use {f : FuncId} {args : Array Value} {w0 W : World} {Q : World → Ending → World → Prop} (h : DTell f args w0 Q) (ho : Off [] w0 W) : Calls Tryz.prog f args W (Q W) := h.call W ho
set_option maxRecDepth 100000 in
set_option maxHeartbeats 8000000 in
theorem gdown_step (A B i j : Nat) (w : World) (h : PW w g2 g3 g5 g6 gm pp np pc nc P N) (hA : P.length = A) (hB : N.length = B) (hAm : A ≤ 1000) (hBm : B ≤ 1000) (hi : i ≤ A) (hj : j ≤ B)
    (hP : ∀ x ∈ P, x.size ≤ 1048576) (hN : ∀ x ∈ N, x.size ≤ 1048576)
    (hrec : ∀ (i' j' : Nat) (W : World), i' ≤ A → j' ≤ B → i ≤ i' → j ≤ j' → i + j < i' + j' → PW W g2 g3 g5 g6 gm pp np pc nc P N → Calls Tryz.prog 389 #[.int .i64 i', .int .i64 j', .pointer (some ⟨g2, 0, none⟩), .pointer (some ⟨g3, 0, none⟩), .pointer (some ⟨g5, 0, none⟩), .pointer (some ⟨g6, 0, none⟩)] W (PPost W g2 g3 g5 g6 gm pp np pc nc P N i' j')) :
    Calls Tryz.prog 389 #[.int .i64 i, .int .i64 j, .pointer (some ⟨g2, 0, none⟩), .pointer (some ⟨g3, 0, none⟩), .pointer (some ⟨g5, 0, none⟩), .pointer (some ⟨g6, 0, none⟩)] w (PPost w g2 g3 g5 g6 gm pp np pc nc P N i j) := by
  have HH := Lib.hid h; have HREC := Lib.hid hrec; have HA := Lib.hid hA; have HB := Lib.hid hB; have HP := Lib.hid hP; have HN := Lib.hid hN; have c2 := h.b2.cell; have c3 := h.b3.cell; have c5 := h.b5.cell; have c6 := h.b6.cell; rw [hA] at c2; rw [hB] at c3; clear h hrec hP hN; unfold PPost
  by_cases hia : i = A
  · have f1 : ((i : Int) == A) = true := by rw [hia]; simp
    have HE := Lib.hid (gp_end (P := strsOf P) (N := strsOf N) (i := i) (j := j) (by rw [strs_len]; omega) (by rw [strs_len]; omega)); rw [strs_len, hB] at HE; clear hA hB hia
    go_enter Tryz.func389, Tryz.ntmps389
    go_wp2_with fail
    go_ret
    refine ⟨?_, HH.out, Off.refl _ _⟩
    rw [HE.out]
    show Ending.returned (.bool ((j : Int) == (B : Int))) = _
    congr 2
    rw [Bool.eq_iff_iff]; simp; omega
  have f1 : ((i : Int) == A) = false := beq_eq_false_iff_ne.2 (by omega)
  have hil : i < P.length := by omega
  obtain ⟨q, hq⟩ : ∃ q, P[i]? = some q := ⟨_, List.getElem?_eq_getElem hil⟩
  obtain ⟨gp, rfl, ⟨cp, hbp⟩, hcp⟩ := HH.out.sp (by intro e; rw [e] at hil; simp at hil); have cq := hcp i q hq; have hgpl := hbp.lt; obtain ⟨x, hlook, hbad⟩ := HH.out.m.look (i := i) (j := j) (by omega) (by omega) (by omega) (by omega); have HBAD := Lib.hid hbad; have hiI : (i : Int) < A := by omega
  have hi0 : (0 : Int) ≤ i := by omega
  have hia1 : (0 : Int) ≤ (i : Int) + 1 := by omega
  unfold pairV at hlook; clear hbad hcp hbp hia
  cases x
  case true =>
    have HR := Lib.hid (HBAD.out rfl); clear hA hB
    go_enter Tryz.func389, Tryz.ntmps389
    go_wp2_with fail
    go_ret
    exact ⟨by rw [HR.out]; rfl, HH.out, Off.refl _ _⟩
  by_cases hst : str q = [42, 42]
  · have f2 : (q.toList == [42, 42]) = true := by rw [toList_str, hst]; rfl
    have HS := Lib.hid (gp_stars (P := strsOf P) (N := strsOf N) (i := i) (j := j) (by rw [strs_get hq, hst]) (by rw [strs_len]; omega)); rw [strs_len, hB] at HS; clear hst hq hA hB; obtain ⟨r1, hr1⟩ : ∃ r1, gpartsV ((strsOf P).drop (i + 1)) ((strsOf N).drop j) = r1 := ⟨_, rfl⟩
    have HR1 := Lib.hid hr1
    go_enter Tryz.func389, Tryz.ntmps389
    go_wp2_with fail
    refine (HREC.out (i + 1) j _ (by omega) hj (by omega) (Nat.le_refl _) (by omega) HH.out).mono ?_
    rintro e w1 ⟨rfl, hp1, ho1⟩; rw [hr1]; have HP1 := Lib.hid hp1; have HO1 := Lib.hid ho1; clear hp1 ho1 hr1 c2 c3 c5 c6 hlook
    cases r1
    case true =>
      obtain ⟨L, D, hD, hs, hnd, hL, hh, ha⟩ := HP1.out.m; have hLl := nodup_lt _ L hnd hL; have hmul : (P.length + 1) * (N.length + 1) ≤ 1001 * 1001 := Nat.mul_le_mul (by have := HA.out; omega) (by have := HB.out; omega)
      have HM := Lib.hid (And.intro hs (And.intro hnd (And.intro hL (And.intro hh ha)))); have HD := Lib.hid hD; have d5 := HP1.out.b5.cell; clear hs hnd hL hh ha hD hmul
      go_wp2_with (at_mapUpdate; refine wpList_mapUpdate_own _ rfl _ _ _ 441 rfl 103 4 pairK Tryz.underlying441 _ gm L.length D rfl HD.out (by unfold maxLen; have := hLl; have := Nat.mul_le_mul (show P.length + 1 ≤ 1001 by have := HA.out; omega) (show N.length + 1 ≤ 1001 by have := HB.out; omega); omega) _ _ (keyLP i j) rfl rfl (pair_key (by omega) (by omega)) (.lit (.bool false)) [] (plainElem_bool Tryz.underlying4 false) ?_; intro wz hownz hgrowz)
      have hoz : Off [gm] w1 wz := (Off.refl [gm] w1).grown hgrowz (fun k hk => .inr (by injection hk with hk; subst hk; exact List.mem_singleton.2 rfl))
      go_wp2_with fail
      go_ret
      refine ⟨by rw [HS.out, HR1.out]; rfl, HP1.out.next hoz (SMat.put HM.out.1 HD.out HM.out.2.1 HM.out.2.2.1 HM.out.2.2.2.1 HM.out.2.2.2.2 (by have := HA.out; omega) (by have := HB.out; omega) (by have := HA.out; omega) (by have := HB.out; omega) false (fun _ => by first | (rw [HS.out, HR1.out]; done) | (rw [HS.out, HR1.out]; rfl) | contradiction) hownz) (HP1.out.tabs.step hoz HP1.out.m.isMap), (HO1.out).trans hoz (fun x _ hx => hx)⟩
    case false =>
      have d3 := HP1.out.b3.cell; rw [HB.out] at d3; have d6 := HP1.out.b6.cell
      by_cases hjb : j < B
      · have hjI : (j : Int) < B := by omega
        have HJ := Lib.hid hjb; obtain ⟨r2, hr2⟩ : ∃ r2, gpartsV ((strsOf P).drop i) ((strsOf N).drop (j + 1)) = r2 := ⟨_, rfl⟩
        have HR2 := Lib.hid hr2; have HV := Lib.hid (show gpartsV ((strsOf P).drop i) ((strsOf N).drop j) = r2 by rw [HS.out, HR1.out, decide_eq_true hjb, hr2]; simp)
        go_wp2_with fail
        refine (HREC.out i (j + 1) _ hi (by omega) (Nat.le_refl _) (by omega) (by omega) HP1.out).mono ?_
        rintro e w2 ⟨rfl, hp2, ho2⟩; rw [hr2]; have HP2 := Lib.hid hp2; have HO2 := Lib.hid (HO1.out.trans ho2 (fun x _ hx => hx)); clear hp2 ho2 hr2 d3 d6
        cases r2
        case true =>
          obtain ⟨L, D, hD, hs, hnd, hL, hh, ha⟩ := HP2.out.m; have hLl := nodup_lt _ L hnd hL; have hmul : (P.length + 1) * (N.length + 1) ≤ 1001 * 1001 := Nat.mul_le_mul (by have := HA.out; omega) (by have := HB.out; omega)
          have HM := Lib.hid (And.intro hs (And.intro hnd (And.intro hL (And.intro hh ha)))); have HD := Lib.hid hD; have d5 := HP2.out.b5.cell; clear hs hnd hL hh ha hD hmul
          go_wp2_with (at_mapUpdate; refine wpList_mapUpdate_own _ rfl _ _ _ 441 rfl 103 4 pairK Tryz.underlying441 _ gm L.length D rfl HD.out (by unfold maxLen; have := hLl; have := Nat.mul_le_mul (show P.length + 1 ≤ 1001 by have := HA.out; omega) (show N.length + 1 ≤ 1001 by have := HB.out; omega); omega) _ _ (keyLP i j) rfl rfl (pair_key (by omega) (by omega)) (.lit (.bool false)) [] (plainElem_bool Tryz.underlying4 false) ?_; intro wz hownz hgrowz)
          have hoz : Off [gm] w2 wz := (Off.refl [gm] w2).grown hgrowz (fun k hk => .inr (by injection hk with hk; subst hk; exact List.mem_singleton.2 rfl))
          go_wp2_with fail
          go_ret
          refine ⟨by rw [HV.out]; rfl, HP2.out.next hoz (SMat.put HM.out.1 HD.out HM.out.2.1 HM.out.2.2.1 HM.out.2.2.2.1 HM.out.2.2.2.2 (by have := HA.out; omega) (by have := HB.out; omega) (by have := HA.out; omega) (by have := HB.out; omega) false (fun _ => by first | (rw [HV.out]; done) | (rw [HV.out]; rfl) | contradiction) hownz) (HP2.out.tabs.step hoz HP2.out.m.isMap), (HO2.out).trans hoz (fun x _ hx => hx)⟩
        case false =>
          obtain ⟨L, D, hD, hs, hnd, hL, hh, ha⟩ := HP2.out.m; have hLl := nodup_lt _ L hnd hL; have hmul : (P.length + 1) * (N.length + 1) ≤ 1001 * 1001 := Nat.mul_le_mul (by have := HA.out; omega) (by have := HB.out; omega)
          have HM := Lib.hid (And.intro hs (And.intro hnd (And.intro hL (And.intro hh ha)))); have HD := Lib.hid hD; have d5 := HP2.out.b5.cell; clear hs hnd hL hh ha hD hmul
          go_wp2_with (at_mapUpdate; refine wpList_mapUpdate_own _ rfl _ _ _ 441 rfl 103 4 pairK Tryz.underlying441 _ gm L.length D rfl HD.out (by unfold maxLen; have := hLl; have := Nat.mul_le_mul (show P.length + 1 ≤ 1001 by have := HA.out; omega) (show N.length + 1 ≤ 1001 by have := HB.out; omega); omega) _ _ (keyLP i j) rfl rfl (pair_key (by omega) (by omega)) (.lit (.bool true)) [] (plainElem_bool Tryz.underlying4 true) ?_; intro wz hownz hgrowz)
          have hoz : Off [gm] w2 wz := (Off.refl [gm] w2).grown hgrowz (fun k hk => .inr (by injection hk with hk; subst hk; exact List.mem_singleton.2 rfl))
          go_wp2_with fail
          go_ret
          refine ⟨by rw [HV.out]; rfl, HP2.out.next hoz (SMat.put HM.out.1 HD.out HM.out.2.1 HM.out.2.2.1 HM.out.2.2.2.1 HM.out.2.2.2.2 (by have := HA.out; omega) (by have := HB.out; omega) (by have := HA.out; omega) (by have := HB.out; omega) true (fun _ => by first | (rw [HV.out]; done) | (rw [HV.out]; rfl) | contradiction) hownz) (HP2.out.tabs.step hoz HP2.out.m.isMap), (HO2.out).trans hoz (fun x _ hx => hx)⟩
      have hjI : ¬ (j : Int) < B := by omega
      have HV := Lib.hid (show gpartsV ((strsOf P).drop i) ((strsOf N).drop j) = false by rw [HS.out, HR1.out, decide_eq_false hjb]; rfl); clear hjb; obtain ⟨L, D, hD, hs, hnd, hL, hh, ha⟩ := HP1.out.m; have hLl := nodup_lt _ L hnd hL; have hmul : (P.length + 1) * (N.length + 1) ≤ 1001 * 1001 := Nat.mul_le_mul (by have := HA.out; omega) (by have := HB.out; omega)
      have HM := Lib.hid (And.intro hs (And.intro hnd (And.intro hL (And.intro hh ha)))); have HD := Lib.hid hD; have d5 := HP1.out.b5.cell; clear hs hnd hL hh ha hD hmul
      go_wp2_with (at_mapUpdate; refine wpList_mapUpdate_own _ rfl _ _ _ 441 rfl 103 4 pairK Tryz.underlying441 _ gm L.length D rfl HD.out (by unfold maxLen; have := hLl; have := Nat.mul_le_mul (show P.length + 1 ≤ 1001 by have := HA.out; omega) (show N.length + 1 ≤ 1001 by have := HB.out; omega); omega) _ _ (keyLP i j) rfl rfl (pair_key (by omega) (by omega)) (.lit (.bool true)) [] (plainElem_bool Tryz.underlying4 true) ?_; intro wz hownz hgrowz)
      have hoz : Off [gm] w1 wz := (Off.refl [gm] w1).grown hgrowz (fun k hk => .inr (by injection hk with hk; subst hk; exact List.mem_singleton.2 rfl))
      go_wp2_with fail
      go_ret
      refine ⟨by rw [HV.out]; rfl, HP1.out.next hoz (SMat.put HM.out.1 HD.out HM.out.2.1 HM.out.2.2.1 HM.out.2.2.2.1 HM.out.2.2.2.2 (by have := HA.out; omega) (by have := HB.out; omega) (by have := HA.out; omega) (by have := HB.out; omega) true (fun _ => by first | (rw [HV.out]; done) | (rw [HV.out]; rfl) | contradiction) hownz) (HP1.out.tabs.step hoz HP1.out.m.isMap), (HO1.out).trans hoz (fun x _ hx => hx)⟩
  have f2 : (q.toList == [42, 42]) = false := by rw [toList_str]; exact beq_eq_false_iff_ne.2 hst
  have HST := Lib.hid hst
  by_cases hjb : j < B
  case neg =>
    have hjI : ¬ (j : Int) < B := by omega
    have HV := Lib.hid (gp_none (P := strsOf P) (N := strsOf N) (i := i) (j := j) (strs_get hq) hst (by rw [strs_len]; omega)); clear hst hq hA hB hjb
    go_enter Tryz.func389, Tryz.ntmps389
    go_upto_region 8 with fail
    go_quiet (fail)
    go_upto_region 9 with fail
    refine code_gen (fun W => Off [] w W) ((Off.refl _ _).drewN _) ?_
    rintro W1 hoW; have HP1 := Lib.hid (HH.out.off hoW); have HO1 := Lib.hid (hoW.mono (l' := [gm]) (fun _ _ h => by cases h)); clear c2 c3 c5 c6 cq hlook hoW; obtain ⟨L, D, hD, hs, hnd, hL, hh, ha⟩ := HP1.out.m; have hLl := nodup_lt _ L hnd hL; have hmul : (P.length + 1) * (N.length + 1) ≤ 1001 * 1001 := Nat.mul_le_mul (by have := HA.out; omega) (by have := HB.out; omega)
    have HM := Lib.hid (And.intro hs (And.intro hnd (And.intro hL (And.intro hh ha)))); have HD := Lib.hid hD; have d5 := HP1.out.b5.cell; clear hs hnd hL hh ha hD hmul
    go_wp2_with (at_mapUpdate; refine wpList_mapUpdate_own _ rfl _ _ _ 441 rfl 103 4 pairK Tryz.underlying441 _ gm L.length D rfl HD.out (by unfold maxLen; have := hLl; have := Nat.mul_le_mul (show P.length + 1 ≤ 1001 by have := HA.out; omega) (show N.length + 1 ≤ 1001 by have := HB.out; omega); omega) _ _ (keyLP i j) rfl rfl (pair_key (by omega) (by omega)) (.lit (.bool true)) [] (plainElem_bool Tryz.underlying4 true) ?_; intro wz hownz hgrowz)
    have hoz : Off [gm] W1 wz := (Off.refl [gm] W1).grown hgrowz (fun k hk => .inr (by injection hk with hk; subst hk; exact List.mem_singleton.2 rfl))
    go_wp2_with fail
    go_ret
    refine ⟨by rw [HV.out]; rfl, HP1.out.next hoz (SMat.put HM.out.1 HD.out HM.out.2.1 HM.out.2.2.1 HM.out.2.2.2.1 HM.out.2.2.2.2 (by have := HA.out; omega) (by have := HB.out; omega) (by have := HA.out; omega) (by have := HB.out; omega) true (fun _ => by first | (rw [HV.out]; done) | (rw [HV.out]; rfl) | contradiction) hownz) (HP1.out.tabs.step hoz HP1.out.m.isMap), (HO1.out).trans hoz (fun x _ hx => hx)⟩
  have hjl : j < N.length := by omega
  obtain ⟨x, hx⟩ : ∃ x, N[j]? = some x := ⟨_, List.getElem?_eq_getElem hjl⟩
  obtain ⟨gn, rfl, ⟨cn, hbn⟩, hcn⟩ := HH.out.sn (by intro e; rw [e] at hjl; simp at hjl); have cx := hcn j x hx; have hgnl := hbn.lt; have hjI : (j : Int) < B := by omega
  have hj0 : (0 : Int) ≤ j := by omega
  have hjN : j < B := hjb
  have hb2l := HH.out.b2.lt; have hb3l := HH.out.b3.lt; have hb6l := HH.out.b6.lt
  have SK := Lib.hid (show ∀ W', Off [] w W' → W'.cell? ⟨g2, 0, none⟩ = some (.slice (some ⟨gp, 0, none⟩) A pc) ∧ W'.cell? ⟨g3, 0, none⟩ = some (.slice (some ⟨gn, 0, none⟩) B nc) ∧ W'.cell? ⟨g6, 0, none⟩ = some (.func (.func 389) #[] #[.pointer (some ⟨g2, 0, none⟩), .pointer (some ⟨g3, 0, none⟩), .pointer (some ⟨g5, 0, none⟩), .pointer (some ⟨g6, 0, none⟩)]) ∧ W'.cell? ⟨gp, i, none⟩ = some (.string q) ∧ W'.cell? ⟨gn, j, none⟩ = some (.string x) from fun W' h =>
    ⟨(h.cell (p := ⟨g2, 0, none⟩) hb2l (by simp)).trans (c2 0), (h.cell (p := ⟨g3, 0, none⟩) hb3l (by simp)).trans (c3 0), (h.cell (p := ⟨g6, 0, none⟩) hb6l (by simp)).trans (c6 0), (h.cell (p := ⟨gp, i, none⟩) hgpl (by simp)).trans cq, (h.cell (p := ⟨gn, j, none⟩) hgnl (by simp)).trans cx⟩)
  obtain ⟨bq, hbq⟩ : ∃ bq, gpartV (str q) (str x) = bq := ⟨_, rfl⟩
  have HPART := Lib.hid (fun (W : World) (hW : Off [] w W) => gpart_any q x W (HP.out q (List.mem_of_getElem? hq)) (HN.out x (List.mem_of_getElem? hx)) (HH.out.tabs.off hW)); rw [hbq] at HPART; have HS := Lib.hid (gp_part (P := strsOf P) (N := strsOf N) (i := i) (j := j) (strs_get hq) hst (strs_get hx)); rw [hbq] at HS
  have SKP := Lib.hid (show ∀ W', PW W' g2 g3 g5 g6 gm (some ⟨gp, 0, none⟩) (some ⟨gn, 0, none⟩) pc nc P N → W'.cell? ⟨g2, 0, none⟩ = some (.slice (some ⟨gp, 0, none⟩) A pc) ∧ W'.cell? ⟨g3, 0, none⟩ = some (.slice (some ⟨gn, 0, none⟩) B nc) ∧ W'.cell? ⟨g6, 0, none⟩ = some (.func (.func 389) #[] #[.pointer (some ⟨g2, 0, none⟩), .pointer (some ⟨g3, 0, none⟩), .pointer (some ⟨g5, 0, none⟩), .pointer (some ⟨g6, 0, none⟩)]) ∧ W'.cell? ⟨gp, i, none⟩ = some (.string q) ∧ W'.cell? ⟨gn, j, none⟩ = some (.string x) from fun W' h => by
    have k2 := h.b2.cell 0; have k3 := h.b3.cell 0; rw [hA] at k2; rw [hB] at k3; obtain ⟨ga, e1, -, ka⟩ := h.sp (by intro e; rw [e] at hil; simp at hil); obtain ⟨gb, e2, -, kb⟩ := h.sn (by intro e; rw [e] at hjl; simp at hjl); injection e1 with e1
    injection e1 with e1 _
    injection e2 with e2
    injection e2 with e2 _
    subst e1; subst e2; exact ⟨k2, k3, h.b6.cell 0, ka i q hq, kb j x hx⟩)
  clear hst hq hx hA hB hjb hcn hbn hbq
  cases bq
  · have HV := Lib.hid (show gpartsV ((strsOf P).drop i) ((strsOf N).drop j) = false by rw [HS.out]; rfl)
    go_enter Tryz.func389, Tryz.ntmps389
    go_upto_region 8 with fail
    clear c2 c3 c6 cq cx; have q2 := fun d os => cell_regrown (SK.out w (Off.refl _ _)).1 d os
    have q3 := fun d os => cell_regrown (SK.out w (Off.refl _ _)).2.1 d os
    have q4 := fun d os => cell_regrown (SK.out w (Off.refl _ _)).2.2.2.1 d os
    have q5 := fun d os => cell_regrown (SK.out w (Off.refl _ _)).2.2.2.2 d os
    have cPart : ∀ d os, Calls Tryz.prog 356 #[.string q, .string x] (grow (redrawn w d) os) fun e w'' => e = .returned (.bool false) ∧ ∃ p : Regrown, w'' = grow (redrawn w p.d) p.os := fun d os =>
      Calls.regrown_of ((HPART.out _ (Off.of_below (below_regrown w d os))).mono fun e w' ⟨h1, h2⟩ => ⟨h1, h2.below⟩)
    refine wp_region_quiet_below (by kernel_rfl) (by kernel_rfl) ?_
    repeat (quiet_step (exact cPart _ _))
    refine wpQuiet_nil ?_
    intro _ hw'
    obtain ⟨⟨dq, osq⟩, hw''⟩ := hw'; subst hw''; have hoW := Off.of_below (l := []) (below_regrown w dq osq); clear q2 q3 q4 q5 cPart
    go_upto_region 9 with fail
    refine code_gen (fun W => Off [] w W) hoW ?_
    rintro W1 hoW1; have HP1 := Lib.hid (HH.out.off hoW1); have HO1 := Lib.hid (hoW1.mono (l' := [gm]) (fun _ _ h => by cases h)); clear c5 hlook hoW hoW1; obtain ⟨L, D, hD, hs, hnd, hL, hh, ha⟩ := HP1.out.m; have hLl := nodup_lt _ L hnd hL; have hmul : (P.length + 1) * (N.length + 1) ≤ 1001 * 1001 := Nat.mul_le_mul (by have := HA.out; omega) (by have := HB.out; omega)
    have HM := Lib.hid (And.intro hs (And.intro hnd (And.intro hL (And.intro hh ha)))); have HD := Lib.hid hD; have d5 := HP1.out.b5.cell; clear hs hnd hL hh ha hD hmul
    go_wp2_with (at_mapUpdate; refine wpList_mapUpdate_own _ rfl _ _ _ 441 rfl 103 4 pairK Tryz.underlying441 _ gm L.length D rfl HD.out (by unfold maxLen; have := hLl; have := Nat.mul_le_mul (show P.length + 1 ≤ 1001 by have := HA.out; omega) (show N.length + 1 ≤ 1001 by have := HB.out; omega); omega) _ _ (keyLP i j) rfl rfl (pair_key (by omega) (by omega)) (.lit (.bool true)) [] (plainElem_bool Tryz.underlying4 true) ?_; intro wz hownz hgrowz)
    have hoz : Off [gm] W1 wz := (Off.refl [gm] W1).grown hgrowz (fun k hk => .inr (by injection hk with hk; subst hk; exact List.mem_singleton.2 rfl))
    go_wp2_with fail
    go_ret
    refine ⟨by rw [HV.out]; rfl, HP1.out.next hoz (SMat.put HM.out.1 HD.out HM.out.2.1 HM.out.2.2.1 HM.out.2.2.2.1 HM.out.2.2.2.2 (by have := HA.out; omega) (by have := HB.out; omega) (by have := HA.out; omega) (by have := HB.out; omega) true (fun _ => by first | (rw [HV.out]; done) | (rw [HV.out]; rfl) | contradiction) hownz) (HP1.out.tabs.step hoz HP1.out.m.isMap), (HO1.out).trans hoz (fun x _ hx => hx)⟩
  obtain ⟨r2, hr2⟩ : ∃ r2, gpartsV ((strsOf P).drop (i + 1)) ((strsOf N).drop (j + 1)) = r2 := ⟨_, rfl⟩
  have HR2 := Lib.hid hr2; have HV := Lib.hid (show gpartsV ((strsOf P).drop i) ((strsOf N).drop j) = r2 by rw [HS.out, hr2]; rfl); have hja1 : (0 : Int) ≤ (j : Int) + 1 := by omega
  have HPT := Lib.hid (show DTell 356 #[.string q, .string x] w (fun W e w' => e = .returned (.bool true) ∧ Off [] W w') from ⟨HPART.out⟩)
  have HDOWN := Lib.hid (show DTell 389 #[.int .i64 (IntKind.i64.wrap ((i : Int) + 1)), .int .i64 (IntKind.i64.wrap ((j : Int) + 1)), .pointer (some ⟨g2, 0, none⟩), .pointer (some ⟨g3, 0, none⟩), .pointer (some ⟨g5, 0, none⟩), .pointer (some ⟨g6, 0, none⟩)] w (fun W e w' => e = .returned (.bool r2) ∧ PW w' g2 g3 g5 g6 gm (some ⟨gp, 0, none⟩) (some ⟨gn, 0, none⟩) pc nc P N ∧ Off [gm] W w') from ⟨fun W hW => by
    have h1 := HREC.out (i + 1) (j + 1) W (by omega) (by omega) (by omega) (by omega) (by omega) (HH.out.off hW); unfold PPost at h1; rw [hr2] at h1; rw [IntWalk.i64_in ((i : Int) + 1) (by omega), IntWalk.i64_in ((j : Int) + 1) (by omega)]; exact h1⟩)
  go_enter Tryz.func389, Tryz.ntmps389
  go_upto_region 8 with fail
  clear c2 c3 c6 cq cx; have hch := Off.refl [] w.drew
  go_region_held3 (fun W' => W'.cell? ⟨g2, 0, none⟩ = some (.slice (some ⟨gp, 0, none⟩) A pc) ∧ W'.cell? ⟨g3, 0, none⟩ = some (.slice (some ⟨gn, 0, none⟩) B nc) ∧ W'.cell? ⟨g6, 0, none⟩ = some (.func (.func 389) #[] #[.pointer (some ⟨g2, 0, none⟩), .pointer (some ⟨g3, 0, none⟩), .pointer (some ⟨g5, 0, none⟩), .pointer (some ⟨g6, 0, none⟩)]) ∧ W'.cell? ⟨gp, i, none⟩ = some (.string q) ∧ W'.cell? ⟨gn, j, none⟩ = some (.string x)) (first | assumption | exact SK.out _ ((Off.refl [] w).drew.trans_nil hch) | exact SKP.out _ hpB) (first
    | (go_at_call 356; refine (dtell_use (by exact HPT.out) ((Off.refl [] w).drew.trans_nil hch)).mono ?_; rintro e' wA ⟨rfl, hoA⟩; have hch := hch.trans_nil hoA)
    | (go_at_call 389; refine (dtell_use (by exact HDOWN.out) ((Off.refl [] w).drew.trans_nil hch)).mono ?_; rintro e' wB ⟨rfl, hpB, hoB⟩))
  all_goals go_upto_region 9 with fail
  refine code_gen (fun W => PW W g2 g3 g5 g6 gm (some ⟨gp, 0, none⟩) (some ⟨gn, 0, none⟩) pc nc P N ∧ Off [gm] w W) ⟨hpB, (((Off.refl [] w).drew.trans_nil hch).mono (fun _ _ h => by cases h)).trans hoB (fun x _ hx => hx)⟩ ?_
  rintro W1 ⟨hp1, ho1⟩; have HP1 := Lib.hid hp1; have HO1 := Lib.hid ho1; clear c5 hlook hch hpB hoB hp1 ho1
  cases r2
  case true =>
    obtain ⟨L, D, hD, hs, hnd, hL, hh, ha⟩ := HP1.out.m; have hLl := nodup_lt _ L hnd hL; have hmul : (P.length + 1) * (N.length + 1) ≤ 1001 * 1001 := Nat.mul_le_mul (by have := HA.out; omega) (by have := HB.out; omega)
    have HM := Lib.hid (And.intro hs (And.intro hnd (And.intro hL (And.intro hh ha)))); have HD := Lib.hid hD; have d5 := HP1.out.b5.cell; clear hs hnd hL hh ha hD hmul
    go_wp2_with (at_mapUpdate; refine wpList_mapUpdate_own _ rfl _ _ _ 441 rfl 103 4 pairK Tryz.underlying441 _ gm L.length D rfl HD.out (by unfold maxLen; have := hLl; have := Nat.mul_le_mul (show P.length + 1 ≤ 1001 by have := HA.out; omega) (show N.length + 1 ≤ 1001 by have := HB.out; omega); omega) _ _ (keyLP i j) rfl rfl (pair_key (by omega) (by omega)) (.lit (.bool false)) [] (plainElem_bool Tryz.underlying4 false) ?_; intro wz hownz hgrowz)
    have hoz : Off [gm] W1 wz := (Off.refl [gm] W1).grown hgrowz (fun k hk => .inr (by injection hk with hk; subst hk; exact List.mem_singleton.2 rfl))
    go_wp2_with fail
    go_ret
    refine ⟨by rw [HV.out]; rfl, HP1.out.next hoz (SMat.put HM.out.1 HD.out HM.out.2.1 HM.out.2.2.1 HM.out.2.2.2.1 HM.out.2.2.2.2 (by have := HA.out; omega) (by have := HB.out; omega) (by have := HA.out; omega) (by have := HB.out; omega) false (fun _ => by first | (rw [HV.out]; done) | (rw [HV.out]; rfl) | contradiction) hownz) (HP1.out.tabs.step hoz HP1.out.m.isMap), (HO1.out).trans hoz (fun x _ hx => hx)⟩
  case false =>
    obtain ⟨L, D, hD, hs, hnd, hL, hh, ha⟩ := HP1.out.m; have hLl := nodup_lt _ L hnd hL; have hmul : (P.length + 1) * (N.length + 1) ≤ 1001 * 1001 := Nat.mul_le_mul (by have := HA.out; omega) (by have := HB.out; omega)
    have HM := Lib.hid (And.intro hs (And.intro hnd (And.intro hL (And.intro hh ha)))); have HD := Lib.hid hD; have d5 := HP1.out.b5.cell; clear hs hnd hL hh ha hD hmul
    go_wp2_with (at_mapUpdate; refine wpList_mapUpdate_own _ rfl _ _ _ 441 rfl 103 4 pairK Tryz.underlying441 _ gm L.length D rfl HD.out (by unfold maxLen; have := hLl; have := Nat.mul_le_mul (show P.length + 1 ≤ 1001 by have := HA.out; omega) (show N.length + 1 ≤ 1001 by have := HB.out; omega); omega) _ _ (keyLP i j) rfl rfl (pair_key (by omega) (by omega)) (.lit (.bool true)) [] (plainElem_bool Tryz.underlying4 true) ?_; intro wz hownz hgrowz)
    have hoz : Off [gm] W1 wz := (Off.refl [gm] W1).grown hgrowz (fun k hk => .inr (by injection hk with hk; subst hk; exact List.mem_singleton.2 rfl))
    go_wp2_with fail
    go_ret
    refine ⟨by rw [HV.out]; rfl, HP1.out.next hoz (SMat.put HM.out.1 HD.out HM.out.2.1 HM.out.2.2.1 HM.out.2.2.2.1 HM.out.2.2.2.2 (by have := HA.out; omega) (by have := HB.out; omega) (by have := HA.out; omega) (by have := HB.out; omega) true (fun _ => by first | (rw [HV.out]; done) | (rw [HV.out]; rfl) | contradiction) hownz) (HP1.out.tabs.step hoz HP1.out.m.isMap), (HO1.out).trans hoz (fun x _ hx => hx)⟩
end
end
section
open Go.RowKit Go.Op Go.Maps
section
variable {g2 g3 g5 g6 gm pc nc : Nat} {pp np : Option Addr} {P N : List ByteArray}
theorem gdown_any (hP : ∀ x ∈ P, x.size ≤ 1048576) (hN : ∀ x ∈ N, x.size ≤ 1048576) (hA : P.length ≤ 1000) (hB : N.length ≤ 1000) :
    ∀ (f i j : Nat) (w : World), P.length + N.length ≤ i + j + f → i ≤ P.length → j ≤ N.length → PW w g2 g3 g5 g6 gm pp np pc nc P N →
      Calls Tryz.prog 389 #[.int .i64 i, .int .i64 j, .pointer (some ⟨g2, 0, none⟩), .pointer (some ⟨g3, 0, none⟩), .pointer (some ⟨g5, 0, none⟩), .pointer (some ⟨g6, 0, none⟩)] w (PPost w g2 g3 g5 g6 gm pp np pc nc P N i j)
  | 0, i, j, w, hf, hi, hj, h => gdown_step _ _ i j w h rfl rfl hA hB hi hj hP hN (fun i' j' W h1 h2 _ _ h5 _ => by exfalso; omega)
  | f + 1, i, j, w, hf, hi, hj, h => gdown_step _ _ i j w h rfl rfl hA hB hi hj hP hN (fun i' j' W h1 h2 _ _ h5 hW => gdown_any hP hN hA hB f i' j' W (by omega) h1 h2 hW)
end
set_option maxRecDepth 100000 in
set_option maxHeartbeats 8000000 in
theorem gparts_any (pp np : Option Addr) (P N : List ByteArray) (a c b d : Nat) (w : World) (ha : P.length = a) (hb : N.length = b) (sp : StrB w pp P) (sn : StrB w np N) (hP : ∀ x ∈ P, x.size ≤ 1048576) (hN : ∀ x ∈ N, x.size ≤ 1048576) (hA : P.length ≤ 1000) (hB : N.length ≤ 1000) (hT : Tabs w) :
    Calls Tryz.prog 353 #[.slice pp a c, .slice np b d] w fun e w' => e = .returned (.bool (gpartsV (strsOf P) (strsOf N))) ∧ Off [] w w' := by
  have hmf : ∀ (fn : Fn) (first cap : Array Value) (w : World), (Instr.makeFunc fn first cap).run Tryz.prog w = .ok (.func fn first cap) w := fun _ _ _ _ => rfl
  have HSP := Lib.hid sp; have HSN := Lib.hid sn; have HL := Lib.hid (And.intro ha hb); have HPN := Lib.hid (And.intro hP (And.intro hN (And.intro hA hB))); have HT := Lib.hid hT; clear sp sn ha hb hP hN hA hB hT
  go_enter Tryz.func353, Tryz.ntmps353
  go_wp2_with fail
  rw [run_makeMap]; simp only [Result.andThen]; rw [Oper.upon_value]
  go_upto_region 3 with fail
  refine code_gen (fun W => Blk W w.heap.size 45 #[.slice pp a c] ∧ Blk W (w.heap.size + 1) 45 #[.slice np b d] ∧ SMat W (w.heap.size + 1 + 1) P.length N.length (fun i j => gpartsV ((strsOf P).drop i) ((strsOf N).drop j) = false) ∧ Blk W (w.heap.size + 1 + 1 + 1) 441 #[.map (some (w.heap.size + 1 + 1))] ∧ (∃ z, Blk W (w.heap.size + 1 + 1 + 1 + 1) 442 #[z]) ∧ Off [] w W)
    ⟨((((Blk.new w _ _).alloc _).alloc _).alloc _).alloc _, (((Blk.new1 w _ _ _).alloc _).alloc _).alloc _, ?m1, ?m2, ?m3, ((((Off.refl _ _).alloc _).alloc _).alloc _).alloc _ |>.alloc _⟩ ?_
  case m1 =>
    refine SMat.off (w := ((w.alloc (.cells #[.slice pp a c] 45)).alloc (.cells #[.slice np b d] 45)).alloc (.map #[] 0)) (k := []) ?_ (((Off.refl [] _).alloc _).alloc _) (by simp)
    have h0 := SMat.new ((w.alloc (.cells #[.slice pp a c] 45)).alloc (.cells #[.slice np b d] 45)) P.length N.length (fun i j => gpartsV ((strsOf P).drop i) ((strsOf N).drop j) = false)
    simpa using h0
  case m2 =>
    have h0 := Blk.new (((w.alloc (.cells #[.slice pp a c] 45)).alloc (.cells #[.slice np b d] 45)).alloc (.map #[] 0)) 441 #[.map (some (w.heap.size + 1 + 1))]; have h1 := h0.alloc (.cells #[.nilFunc] 442)
    simpa using h1
  case m3 =>
    have h0 := Blk.new ((((w.alloc (.cells #[.slice pp a c] 45)).alloc (.cells #[.slice np b d] 45)).alloc (.map #[] 0)).alloc (.cells #[.map (some (w.heap.size + 1 + 1))] 441)) 442 #[.nilFunc]; exact ⟨.nilFunc, by simpa using h0⟩
  rintro W ⟨b2, b3, hm, b5, ⟨z, b6⟩, ho⟩; have h6 := b6.cell; have f6 := b6.frozen; have HB := Lib.hid (And.intro b2 (And.intro b3 (And.intro hm (And.intro b5 (And.intro b6 ho))))); obtain ⟨g2, hg2⟩ : ∃ g2, w.heap.size = g2 := ⟨_, rfl⟩
  rw [hg2] at HB h6 f6; rw [hg2]; have HG := Lib.hid hg2; clear b2 b3 hm b5 b6 ho hg2
  go_upto_region 4 with fail
  have hpw : PW (W.setCell ⟨g2 + 1 + 1 + 1 + 1, 0, none⟩ (.func (.func 389) #[] #[.pointer (some ⟨g2, 0, none⟩), .pointer (some ⟨g2 + 1, 0, none⟩), .pointer (some ⟨g2 + 1 + 1 + 1, 0, none⟩), .pointer (some ⟨g2 + 1 + 1 + 1 + 1, 0, none⟩)])) g2 (g2 + 1) (g2 + 1 + 1 + 1) (g2 + 1 + 1 + 1 + 1) (g2 + 1 + 1) pp np c d P N ∧ Off [] w (W.setCell ⟨g2 + 1 + 1 + 1 + 1, 0, none⟩ (.func (.func 389) #[] #[.pointer (some ⟨g2, 0, none⟩), .pointer (some ⟨g2 + 1, 0, none⟩), .pointer (some ⟨g2 + 1 + 1 + 1, 0, none⟩), .pointer (some ⟨g2 + 1 + 1 + 1 + 1, 0, none⟩)])) := by
    obtain ⟨b2, b3, hm, b5, b6, ho⟩ := HB.out; have ho2 : Off [g2 + 1 + 1 + 1 + 1] W (W.setCell ⟨g2 + 1 + 1 + 1 + 1, 0, none⟩ (.func (.func 389) #[] #[.pointer (some ⟨g2, 0, none⟩), .pointer (some ⟨g2 + 1, 0, none⟩), .pointer (some ⟨g2 + 1 + 1 + 1, 0, none⟩), .pointer (some ⟨g2 + 1 + 1 + 1 + 1, 0, none⟩)])) := (Off.refl _ _).setCell (.inr (by simp)) _
    have hoff := ho.trans ho2 (l := []) (fun x hx hm => by rw [List.mem_singleton] at hm; have := HG.out; omega); refine ⟨⟨?_, ?_, b5.off ho2 (by simp), by simpa using b6.set_ 0 _, ?_, ?_, hm.off ho2 (by simp), HT.out.off hoff⟩, hoff⟩
    · rw [HL.out.1]; exact b2.off ho2 (by simp; omega)
    · rw [HL.out.2]; exact b3.off ho2 (by simp)
    · intro hne
      obtain ⟨g, rfl, ⟨cs, hb⟩, hc⟩ := HSP.out hne; exact ⟨g, rfl, ⟨cs, hb.off hoff (by simp)⟩, fun i x hx => (hoff.cell (p := ⟨g, i, none⟩) hb.lt (by simp)).trans (hc i x hx)⟩
    intro hne
    obtain ⟨g, rfl, ⟨cs, hb⟩, hc⟩ := HSN.out hne; exact ⟨g, rfl, ⟨cs, hb.off hoff (by simp)⟩, fun i x hx => (hoff.cell (p := ⟨g, i, none⟩) hb.lt (by simp)).trans (hc i x hx)⟩
  refine code_gen (fun W => PW W g2 (g2 + 1) (g2 + 1 + 1 + 1) (g2 + 1 + 1 + 1 + 1) (g2 + 1 + 1) pp np c d P N ∧ Off [] w W) hpw ?_
  clear hpw h6 f6; rintro W2 ⟨hp, ho⟩; have HP := Lib.hid hp; have HO := Lib.hid ho; have k6 := hp.b6.cell; clear hp ho
  go_wp2_with fail
  refine (gdown_any HPN.out.1 HPN.out.2.1 HPN.out.2.2.1 HPN.out.2.2.2 (P.length + N.length) 0 0 _ (by omega) (Nat.zero_le _) (Nat.zero_le _) HP.out).mono ?_
  rintro e w1 ⟨rfl, hp1, ho1⟩; have HO1 := Lib.hid (HO.out.trans ho1 (l := []) (fun x hx hm => by rw [List.mem_singleton] at hm; have := HG.out; omega)); clear hp1 ho1
  go_wp2_with fail
  go_ret
  exact ⟨by rfl, HO1.out⟩
end
section
open Go.RowKit Go.Op
open Go.Lib (validD decodeL)
def ChkRet (s : Str) (e : Ending) : Prop := ∃ v : Int, e = .returned (.tuple #[.int .i64 v, .int .i64 (if checkV s then 0 else 20)])
theorem ChkRet.no {s : Str} (h : checkV s = false) (v : Int) : ChkRet s (.returned (.tuple #[.int .i64 v, .int .i64 20])) := ⟨v, by rw [h]; rfl⟩
theorem ChkRet.yes {s : Str} (h : checkV s = true) (v : Int) : ChkRet s (.returned (.tuple #[.int .i64 v, .int .i64 0])) := ⟨v, by rw [h]; rfl⟩
set_option maxRecDepth 100000 in
set_option maxHeartbeats 4000000 in
theorem gcheck_any (s : ByteArray) (w : World) (hs : s.size ≤ 1048576) (hT : Tabs w) :
    Calls Tryz.prog 352 #[.string s] w fun e w' => ChkRet (str s) e ∧ Off [] w w' := by
  have HT := Lib.hid hT; have hsl := str_size s; have hse : s.toList = [] ↔ str s = [] := by rw [toList_str]
  by_cases h0 : str s = []
  · have g1 : s.toList = [] := hse.2 h0
    have g2 : s.toList.isEmpty = true := by rw [g1]; rfl
    have HC := Lib.hid (show checkV (str s) = false by rw [h0]; rfl); clear hse h0 hT hsl
    go_enter Tryz.func352, Tryz.ntmps352
    go_wp2_with fail
    go_ret2
    exact ⟨.no HC.out _, Off.refl _ _⟩
  have g1 : ¬ s.toList = [] := fun e => h0 (hse.1 e)
  have g2 : s.toList.isEmpty = false := by simpa using g1
  have H0 := Lib.hid h0; clear hse h0 g1
  by_cases h4 : s.size ≤ 400
  case neg =>
    have HC := Lib.hid (show checkV (str s) = false by
      unfold checkV; rw [decide_eq_false (show ¬ (str s).length ≤ 400 by omega)]; simp)
    have h4I : (400 : Int) < s.size := by omega
    clear hT hsl
    go_enter Tryz.func352, Tryz.ntmps352
    go_wp2_with fail
    go_ret2
    exact ⟨.no HC.out _, Off.refl _ _⟩
  have h4I : (s.size : Int) ≤ 400 := by omega
  cases hv : validD (str s)
  · have HV := Lib.hid hv
    have HC := Lib.hid (show checkV (str s) = false by unfold checkV; rw [hv]; simp); clear hv hT hsl
    go_enter Tryz.func352, Tryz.ntmps352
    go_wp2_with fail
    refine (ginvalid_any s _ hs HT.out).mono ?_
    rintro e w1 ⟨⟨v, rfl, hv⟩, ho⟩; have hv0 : 0 ≤ v := by
      rcases hv with ⟨h, -⟩ | ⟨-, h⟩
      · rw [HV.out] at h; cases h
      exact h
    have HO := Lib.hid ho; clear hv ho
    go_wp2_with fail
    go_ret2
    exact ⟨.no HC.out _, HO.out⟩
  have HV := Lib.hid hv; have HC := Lib.hid (show checkV (str s) = checkS true (str s) by
    unfold checkV checkS; rw [decide_eq_true H0.out, decide_eq_true (show (str s).length ≤ 400 by omega), hv]
    rfl)
  clear hv hT hsl H0
  go_enter Tryz.func352, Tryz.ntmps352
  go_wp2_with fail
  refine (ginvalid_any s _ hs HT.out).mono ?_
  rintro e w1 ⟨⟨v, rfl, hv⟩, ho⟩; have hv0 : v = -1 := by
    rcases hv with ⟨-, h⟩ | ⟨h, -⟩
    · exact h
    rw [HV.out] at h; cases h
  subst hv0; have HO := Lib.hid ho; clear hv ho HV
  go_wp2_with fail
  go_loopw [5, 6] (fun x y wr => ∃ (b : Bool) (rest : ByteArray), x = .bool b ∧ y = .string rest ∧ rest.size ≤ s.size ∧ Off [] w wr ∧ Hid (checkS true (str s) = checkS b (str rest))) (fun _ y _ => strLen y)
  case atStart => exact ⟨true, s, rfl, rfl, Nat.le_refl _, HO.out, Lib.hid rfl⟩
  case round =>
    obtain ⟨b, rest, rfl, rfl, hrs, ho, HK⟩ := hrel; have HO1 := Lib.hid ho; clear ho HO; have hre : rest.toList = [] ↔ str rest = [] := by rw [toList_str]
    by_cases hr0 : str rest = []
    · have g3 : rest.toList = [] := hre.2 hr0
      have g4 : rest.toList.isEmpty = true := by rw [g3]; rfl
      have HR := Lib.hid hr0; clear hre hr0
      go_wp2_with fail
      go_ret2
      exact ⟨.yes (by rw [HC.out, HK.out, HR.out]; rfl) _, HO1.out⟩
    have g3 : ¬ rest.toList = [] := fun e => hr0 (hre.1 e)
    have g4 : rest.toList.isEmpty = false := by simpa using g3
    have hrl := str_size rest; have hr1 : 0 < rest.size := by
      have := List.length_pos_iff.2 hr0; omega
    obtain ⟨x, hx⟩ : ∃ x : UInt8, rest[0]'hr1 = x := ⟨_, rfl⟩
    have hg : (str rest)[0]? = some x := by rw [← hx]; exact get_str rest 0 hr1
    have HX := Lib.hid (show str rest = x :: (str rest).drop 1 by
      have := drop_cons hg; rw [List.drop_zero] at this; exact this)
    have hxb := x.toNat_lt; have h1I : (1 : Int) ≤ rest.size := by omega
    have h0I : (0 : Int) < rest.size := by omega
    have HRL := Lib.hid hrl; clear hre hr0 g3 hrl hg; have h1d : str (rest.extract 1 rest.size) = (str rest).drop 1 := str_drop rest 1
    have H1D := Lib.hid h1d; clear h1d
    by_cases c1 : x.toNat = 47
    · have f1 : ((x.toNat : Int) == 47) = true := by rw [c1]; rfl
      have HX7 := Lib.hid (show x = 47 from byte_is (n := 47) (by omega) c1); clear c1; have HCS := Lib.hid (show checkS b (str rest) = (!b && !((str rest).drop 1).isEmpty && checkS true ((str rest).drop 1)) by
        conv => lhs; rw [HX.out, HX7.out]
        rw [checkS_cons, if_pos rfl])
      cases b
      · by_cases hz : rest.size = 1
        · have f2 : ((rest.size : Int) == 1) = true := by rw [hz]; rfl
          have HZ := Lib.hid (show (str rest).drop 1 = [] from List.drop_of_length_le (by rw [HRL.out]; omega)); clear hz
          go_wp2_with fail
          go_ret2
          exact ⟨.no (by rw [HC.out, HK.out, HCS.out, HZ.out]; rfl) _, HO1.out⟩
        have f2 : ((rest.size : Int) == 1) = false := beq_eq_false_iff_ne.2 (by omega)
        have HZ := Lib.hid (show ((str rest).drop 1).isEmpty = false by
          cases hd : (str rest).drop 1 with
          | nil =>
            have := congrArg List.length hd; rw [List.length_drop, HRL.out, List.length_nil] at this; omega
          | cons => rfl)
        clear hz
        go_wp2_with fail
        exact ⟨⟨true, _, rfl, rfl, by simp; omega, HO1.out, Lib.hid (by rw [HK.out, HCS.out, HZ.out, H1D.out]; rfl)⟩, by simp [strLen]; omega⟩
      go_wp2_with fail
      go_ret2
      exact ⟨.no (by rw [HC.out, HK.out, HCS.out]; rfl) _, HO1.out⟩
    have f1 : ((x.toNat : Int) == 47) = false := beq_eq_false_iff_ne.2 (by omega)
    have HC1 := Lib.hid (show x ≠ 47 from byte_ne (n := 47) (by omega) c1)
    by_cases c2 : x.toNat = 92
    · have f2 : ((x.toNat : Int) == 92) = true := by rw [c2]; rfl
      have HX7 := Lib.hid (show x = 92 from byte_is (n := 92) (by omega) c2); clear c1 c2
      by_cases hz : rest.size = 1
      · have f3 : ((rest.size : Int) == 1) = true := by rw [hz]; rfl
        have HCS := Lib.hid (show checkS b (str rest) = false by
          conv => lhs; rw [HX.out, HX7.out]
          rw [checkS_cons, if_neg (by decide), if_pos rfl, List.drop_of_length_le (by rw [HRL.out]; omega)])
        clear hz
        go_wp2_with fail
        go_ret2
        exact ⟨.no (by rw [HC.out, HK.out, HCS.out]) _, HO1.out⟩
      have f3 : ((rest.size : Int) == 1) = false := beq_eq_false_iff_ne.2 (by omega)
      have hr2 : 1 < rest.size := by omega
      have h2I : (1 : Int) < rest.size := by omega
      have h2J : (2 : Int) ≤ rest.size := by omega
      obtain ⟨y, hy⟩ : ∃ y : UInt8, rest[1]'hr2 = y := ⟨_, rfl⟩
      have hg2 : (str rest)[1]? = some y := by rw [← hy]; exact get_str rest 1 hr2
      have HY := Lib.hid (drop_cons hg2); have hyb := y.toNat_lt; clear hz hg2
      by_cases d1 : y.toNat = 47
      · have f4 : ((y.toNat : Int) == 47) = true := by rw [d1]; rfl
        have HD := Lib.hid (show y = 47 from byte_is (n := 47) (by omega) d1); have HCS := Lib.hid (show checkS b (str rest) = false by
          conv => lhs; rw [HX.out, HX7.out]
          rw [checkS_cons, if_neg (by decide), if_pos rfl, HY.out, HD.out]
          rfl)
        clear d1
        go_wp2_with fail
        go_ret2
        exact ⟨.no (by rw [HC.out, HK.out, HCS.out]) _, HO1.out⟩
      have f4 : ((y.toNat : Int) == 47) = false := beq_eq_false_iff_ne.2 (by omega)
      have HD := Lib.hid (show y ≠ 47 from byte_ne (n := 47) (by omega) d1); have HCS := Lib.hid (show checkS b (str rest) = checkS false ((str rest).drop 2) by
        conv => lhs; rw [HX.out, HX7.out]
        rw [checkS_cons, if_neg (by decide), if_pos rfl, HY.out]; dsimp only; rw [bne_iff_ne.2 HD.out, Bool.true_and])
      have HD2 := Lib.hid (str_drop rest 2); clear d1
      go_wp2_with fail
      exact ⟨⟨false, _, rfl, rfl, by simp; omega, HO1.out, Lib.hid (by rw [HK.out, HCS.out, HD2.out])⟩, by simp [strLen]; omega⟩
    have f2 : ((x.toNat : Int) == 92) = false := beq_eq_false_iff_ne.2 (by omega)
    have HC2 := Lib.hid (show x ≠ 92 from byte_ne (n := 92) (by omega) c2)
    by_cases c3 : x.toNat = 91
    · have f3 : ((x.toNat : Int) == 91) = true := by rw [c3]; rfl
      have HX7 := Lib.hid (show x = 91 from byte_is (n := 91) (by omega) c3); have HCS := Lib.hid (show checkS b (str rest) = ((setV (str rest)).2.2 && checkS false (setV (str rest)).2.1) by
        conv => lhs; rw [HX.out, HX7.out]
        rw [checkS_cons, if_neg (by decide), if_neg (by decide), if_pos rfl, ← HX7.out, ← HX.out])
      have HSR := Lib.hid (setV_rest (str rest) (by intro e; have := HRL.out; rw [e] at this; simp at this; omega)); clear c1 c2 c3
      cases hok : (setV (str rest)).2.2
      · have HOK := Lib.hid hok
        clear hok
        go_wp2_with fail
        refine (gset_any rest _ (by omega) (by omega)).mono ?_
        rintro e w2 ⟨rfl, ho2⟩; have HO2 := Lib.hid ho2; clear ho2; unfold setRet; rw [HOK.out]
        go_wp2_with fail
        go_ret2
        exact ⟨.no (by rw [HC.out, HK.out, HCS.out, HOK.out]; rfl) _, HO1.out.trans_nil HO2.out⟩
      have HOK := Lib.hid hok; clear hok
      go_wp2_with fail
      refine (gset_any rest _ (by omega) (by omega)).mono ?_
      rintro e w2 ⟨rfl, ho2⟩; have HO2 := Lib.hid ho2; clear ho2; unfold setRet; rw [HOK.out]
      go_wp2_with fail
      refine ⟨⟨false, _, rfl, rfl, ?_, HO1.out.trans_nil HO2.out, Lib.hid (by rw [HK.out, HCS.out, HOK.out, str_bs]; rfl)⟩, ?_⟩
      · rw [bs_size]; have := HSR.out; rw [HRL.out] at this; omega
      simp only [strLen, bs_size]; have := HSR.out; rw [HRL.out] at this; omega
    have f3 : ((x.toNat : Int) == 91) = false := beq_eq_false_iff_ne.2 (by omega)
    have HC3 := Lib.hid (show x ≠ 91 from byte_ne (n := 91) (by omega) c3); have HCS := Lib.hid (show checkS b (str rest) = checkS false ((str rest).drop 1) by
      conv => lhs; rw [HX.out]
      rw [checkS_cons, if_neg HC1.out, if_neg HC2.out, if_neg HC3.out])
    clear c1 c2 c3
    go_wp2_with fail
    exact ⟨⟨false, _, rfl, rfl, by simp; omega, HO1.out, Lib.hid (by rw [HK.out, HCS.out, H1D.out])⟩, by simp [strLen]; omega⟩
end
section
open Go.RowKit Go.Op Go.Maps
structure Calm (D : PDisk) : Prop where
  on : D.off = false
  fates : D.fates = []
theorem Calm.get {D : PDisk} (h : Calm D) (p : ByteArray) : D.get p = (D.get_ p, D.tick ⟨#[71, 101, 116]⟩ p ⟨#[]⟩) := by
  unfold PDisk.get; rw [step_free _ _ _ h.on h.fates]
  rfl
theorem Calm.names {D : PDisk} (h : Calm D) (p : ByteArray) : D.namesC p = (D.namesOn p, D.tick ⟨#[78, 97, 109, 101, 115]⟩ p ⟨#[]⟩) := by
  unfold PDisk.namesC; rw [step_free _ _ _ h.on h.fates]
  rfl
end
section
open Go.RowKit Go.Op Go.Maps
end
section
open Go.RowKit Go.Op Go.Maps
def Kept (k : List Nat) (w w' : World) : Prop := ∀ b ∈ k, w'.heap[b]? = w.heap[b]?
section
variable {w0 wr w w' : World} {p n : Nat} {D : PDisk} {k : List Nat}
theorem Kept.blk {b : Nat} {t : TypeId} {cs : Array Value} (h : Kept k w w') (hB : Blk w b t cs) (hb : b ∈ k) : Blk w' b t cs := by
  unfold Blk at hB ⊢; rw [h b hb]; exact hB
theorem Kept.row {base e sz m : Nat} {v : Value} {xs : List Value} (h : Kept k w w') (hr : w.ownsRow base e sz v m xs) (hb : ∀ b ∈ v.ownBlock.toList, b ∈ k) : w'.ownsRow base e sz v m xs := by
  refine ⟨hr.1, ?_⟩
  rcases hr.2 with h1 | ⟨g, cap, cur, h1, h2, h3, h4⟩
  · exact .inl h1
  exact .inr ⟨g, cap, cur, h1, h2, (h g (hb g (by rw [h1]; simp [Value.ownBlock]))).trans h3, h4⟩
theorem Kept.trans {w2 : World} (h : Kept k w w') (h2 : Kept k w' w2) : Kept k w w2 := fun b hb => (h2 b hb).trans (h b hb)
end
end
section
open Go.RowKit Go.Op Go.Maps
structure AskA where
  err : Int
  node : Node
  ino : Int
  size : Int
  time : Int
  names : List ByteArray
def zeroA (e : Int) : AskA := ⟨e, ⟨⟨#[]⟩, 0, ⟨#[]⟩, 0⟩, 0, 0, 0, []⟩
def askE (D : PDisk) (c : CallP) : AskA × PDisk :=
  if c.what = 0 then (zeroA (D.edited.write c.path c.data c.mode).1, (D.edited.write c.path c.data c.mode).2) else if c.what = 1 then (zeroA (D.edited.mkdir c.path).1, (D.edited.mkdir c.path).2) else if c.what = 2 then (zeroA (D.edited.link c.path c.to_).1, (D.edited.link c.path c.to_).2) else if c.what = 3 then (zeroA (D.edited.remove c.path).1, (D.edited.remove c.path).2)
  else if c.what = 4 then (zeroA (D.edited.move c.path c.to_).1, (D.edited.move c.path c.to_).2) else if c.what = 5 then (zeroA (D.edited.replace c.path c.to_).1, (D.edited.replace c.path c.to_).2) else if c.what = 6 then (zeroA (D.edited.sync c.path).1, (D.edited.sync c.path).2) else if c.what = 7 then (zeroA D.edited.flush.1, D.edited.flush.2)
  else if c.what = 8 then (⟨(D.edited.get c.path).1.1, (D.edited.get c.path).1.2.1, (D.edited.get c.path).1.2.2.1, (D.edited.get c.path).1.2.2.2.1, (D.edited.get c.path).1.2.2.2.2, []⟩, (D.edited.get c.path).2) else if c.what = 9 then (⟨(D.edited.namesC c.path).1.2, ⟨⟨#[]⟩, 0, ⟨#[]⟩, 0⟩, 0, 0, 0, (D.edited.namesC c.path).1.1⟩, (D.edited.namesC c.path).2) else if c.what = 10 then (zeroA 0, D.boot []) else (zeroA 0, D)
end
section
open Go.RowKit Go.Op Go.Maps
structure SeenP where
  n : Node
  ino : Int
  size : Int
  time : Int
def Same4 (m' m : Ino) : Prop := m'.time = m.time ∧ m'.node.kind = m.node.kind ∧ m'.node.mode = m.node.mode ∧ str m'.node.data <+: str m.node.data
def AgeOk (D : PDisk) : Prop := ∀ m ∈ D.inos, m.time ≤ D.clock
def SeenIn (D : PDisk) (x : SeenP) : Prop :=
  x.size = x.n.data.size ∧ x.time ≤ D.clock ∧ ∃ (i : Nat) (m : Ino), x.ino = i ∧ D.inode i = some m ∧ ((m.time = x.time ∧ m.node.kind = x.n.kind ∧ m.node.mode = x.n.mode ∧ str m.node.data <+: str x.n.data) ∨ x.time < m.time)
structure Nx (D E : PDisk) : Prop where
  clock : D.clock ≤ E.clock
  inos : ∀ i m, D.inode i = some m → ∃ m', E.inode i = some m' ∧ (Same4 m' m ∨ (D.clock : Int) < m'.time)
theorem Same4.refl (m : Ino) : Same4 m m := ⟨rfl, rfl, rfl, List.prefix_refl _⟩
theorem Same4.trans {a b c : Ino} (h : Same4 a b) (k : Same4 b c) : Same4 a c := ⟨h.1.trans k.1, h.2.1.trans k.2.1, h.2.2.1.trans k.2.2.1, h.2.2.2.trans k.2.2.2⟩
theorem Nx.refl (D : PDisk) : Nx D D := ⟨Nat.le_refl _, fun i m h => ⟨m, h, .inl (Same4.refl m)⟩⟩
theorem Nx.trans {D E F : PDisk} (h : Nx D E) (k : Nx E F) : Nx D F := ⟨Nat.le_trans h.clock k.clock, fun i m hm => by
  obtain ⟨m1, h1, h2⟩ := h.inos i m hm; obtain ⟨m2, k1, k2⟩ := k.inos i m1 h1; refine ⟨m2, k1, ?_⟩; have hc := h.clock
  rcases k2 with k2 | k2
  · rcases h2 with h2 | h2
    · exact .inl (k2.trans h2)
    exact .inr (by rw [k2.1]; exact h2)
  exact .inr (by omega)⟩
theorem SeenIn.next {D E : PDisk} {x : SeenP} (h : SeenIn D x) (k : Nx D E) : SeenIn E x := by
  obtain ⟨h1, h2, i, m, h3, h4, h5⟩ := h; obtain ⟨m', k1, k2⟩ := k.inos i m h4; have hc := k.clock; refine ⟨h1, by omega, i, m', h3, k1, ?_⟩
  rcases k2 with ⟨a1, a2, a3, a4⟩ | k2
  · rcases h5 with ⟨b1, b2, b3, b4⟩ | h5
    · exact .inl ⟨a1.trans b1, a2.trans b2, a3.trans b3, a4.trans b4⟩
    exact .inr (by rw [a1]; exact h5)
  exact .inr (by omega)
theorem Nx.same {D F H : PDisk} (h : Nx D F) (hi : H.inos = F.inos) (hc : F.clock ≤ H.clock) : Nx D H := ⟨Nat.le_trans h.clock hc, fun i m hm => by
  obtain ⟨m', h1, h2⟩ := h.inos i m hm; exact ⟨m', by rw [inode_of hi]; exact h1, h2⟩⟩
theorem Nx.app {D F H : PDisk} {l : List Ino} (h : Nx D F) (hi : H.inos = F.inos ++ l) (hc : F.clock ≤ H.clock) : Nx D H := ⟨Nat.le_trans h.clock hc, fun i m hm => by
  obtain ⟨m', h1, h2⟩ := h.inos i m hm; exact ⟨m', by rw [inode_of (E := H) (D := { F with inos := F.inos ++ l }) hi]; exact inode_app h1, h2⟩⟩
theorem inode_setx {D : PDisk} {j : Nat} {x : Ino} {i : Nat} {m : Ino} (h : D.inode i = some m) : ({ D with inos := D.inos.set j x } : PDisk).inode i = some m ∨ (i = j + 1 ∧ ({ D with inos := D.inos.set j x } : PDisk).inode i = some x) := by
  unfold PDisk.inode at h ⊢
  split at h
  · cases h
  rename_i h0
  rw [if_neg h0]; dsimp only; rw [List.getElem?_set]; have hl := (List.getElem?_eq_some_iff.1 h).1
  by_cases e : j = i - 1
  · right
    rw [if_pos e, if_pos (by omega)]; exact ⟨by omega, rfl⟩
  left
  rw [if_neg e]; exact h
theorem Nx.set {D F H : PDisk} {j : Nat} {x : Ino} (h : Nx D F) (hi : H.inos = F.inos.set j x) (hc : F.clock ≤ H.clock) (hx : (D.clock : Int) < x.time ∨ F.inode (j + 1) = none ∨ ∃ m, F.inode (j + 1) = some m ∧ Same4 x m) : Nx D H := ⟨Nat.le_trans h.clock hc, fun i m hm => by
  obtain ⟨m', h1, h2⟩ := h.inos i m hm; rw [inode_of (E := H) (D := { F with inos := F.inos.set j x }) hi]
  rcases inode_setx (j := j) (x := x) h1 with h3 | ⟨h3, h4⟩
  · exact ⟨m', h3, h2⟩
  refine ⟨x, h4, ?_⟩
  rcases hx with hx | hx | ⟨m1, h5, h6⟩
  · exact .inr hx
  · rw [← h3, h1] at hx; cases hx
  rw [← h3, h1] at h5
  cases h5
  rcases h2 with h2 | h2
  · exact .inl (h6.trans h2)
  exact .inr (by rw [h6.1]; exact h2)⟩
theorem tear_same (t : Int) (m : Ino) : Same4 (PDisk.tear t m) m := by
  unfold PDisk.tear
  split
  · refine ⟨rfl, rfl, rfl, ?_⟩
    show str (m.node.data.extract 0 _) <+: str m.node.data
    rw [str_extract, List.drop_zero]; exact List.take_prefix _ _
  exact Same4.refl m
theorem laid_inos (path : ByteArray) : ∀ (t : List Node) (D : PDisk), ∃ l, (t.foldl (PDisk.laid1 path) D).inos = D.inos ++ l ∧ ∀ m ∈ l, m.time = D.clock + 1
  | [], D => ⟨[], by simp, fun m hm => by cases hm⟩
  | x :: t, D => by
    obtain ⟨l, h1, h2⟩ := laid_inos path t (PDisk.laid1 path D x); rw [List.foldl_cons, h1]; unfold PDisk.laid1 at h2 ⊢
    split
    · rename_i hw
      rw [if_pos hw] at h2; refine ⟨(⟨x, (D.clock : Int) + 1, false⟩ : Ino) :: l, ?_, fun m hm => ?_⟩
      · show (D.inos ++ [_]) ++ l = _
        rw [List.append_assoc]; rfl
      rcases List.mem_cons.1 hm with rfl | hm
      · rfl
      exact h2 m hm
    rename_i hw
    rw [if_neg hw] at h2; exact ⟨l, rfl, h2⟩
theorem edit_inos (D : PDisk) (e : EditP) : ∃ l, (D.edit e).inos = D.inos ++ l ∧ ∀ m ∈ l, m.time = D.clock + 1 := by
  unfold PDisk.edit
  split
  · exact ⟨[], by simp, fun m hm => by cases hm⟩
  exact laid_inos e.path _ { D with names := D.names.filter fun y => !within (str y.1) (str e.path) }
theorem edits_inos (t : Int) : ∀ (es : List EditP) (D : PDisk), ∃ l, (es.foldl (fun E e => if e.at_ = t then E.edit e else E) D).inos = D.inos ++ l ∧ ∀ m ∈ l, m.time = D.clock + 1
  | [], D => ⟨[], by simp, fun m hm => by cases hm⟩
  | e :: es, D => by
    rw [List.foldl_cons]
    by_cases h : e.at_ = t
    · rw [if_pos h]
      obtain ⟨l1, a1, a2⟩ := edits_inos t es (D.edit e); obtain ⟨l2, b1, b2⟩ := edit_inos D e; refine ⟨l2 ++ l1, by rw [a1, b1, List.append_assoc], fun m hm => ?_⟩
      rcases List.mem_append.1 hm with hm | hm
      · exact b2 m hm
      rw [a2 m hm, (edit_keeps D e).2.2.2.1]
    rw [if_neg h]; exact edits_inos t es D
theorem edited_inos (D : PDisk) : ∃ l, D.edited.inos = D.inos ++ l ∧ (∀ m ∈ l, m.time = D.clock + 1) ∧ D.edited.clock = D.clock ∧ (D.off = true → D.edited = D) ∧ D.edited.off = D.off := by
  cases ho : D.off
  · obtain ⟨l, h1, h2⟩ := edits_inos (D.trace.length : Int) D.edits D
    obtain ⟨-, k2, -, k4, -⟩ := edits_keep (D.trace.length : Int) D.edits D; have he : D.edited = D.edits.foldl (fun E e => if e.at_ = (D.trace.length : Int) then E.edit e else E) D := by unfold PDisk.edited; rw [ho]; rfl
    rw [he]; exact ⟨l, h1, h2, k4, (fun h => by cases h), k2.trans ho⟩
  rw [edited_off ho]; exact ⟨[], by simp, (fun m hm => by cases hm), rfl, fun _ => rfl, ho⟩
theorem age_step {D : PDisk} (h : AgeOk D) (c p q : ByteArray) : Nx D (D.edited.step c p q).2.2 ∧ AgeOk (D.edited.step c p q).2.2 ∧ ((D.edited.step c p q).2.1 = 0 → D.clock < (D.edited.step c p q).2.2.clock) := by
  obtain ⟨l, h1, h2, h3, h4, h5⟩ := edited_inos D
  cases ho : D.off
  · generalize hG : D.edited = G at h1 h3 h5
    have hgo : G.off = false := by rw [h5, ho]
    have hage : ∀ m ∈ G.inos, m.time ≤ (D.clock : Int) + 1 := fun m hm => by
      rw [h1] at hm
      rcases List.mem_append.1 hm with hm | hm
      · have := h m hm; omega
      rw [h2 m hm]; exact Int.le_refl _
    have hT : Nx D { G with clock := G.clock + 1, trace := G.trace ++ [⟨c, p, q⟩] } := (Nx.refl D).app (l := l) h1 (by show D.clock ≤ G.clock + 1; omega)
    have hA : AgeOk { G with clock := G.clock + 1, trace := G.trace ++ [⟨c, p, q⟩] } := fun m hm => by
      have := hage m hm
      show m.time ≤ ((G.clock + 1 : Nat) : Int)
      rw [h3]; omega
    have hcr : ∀ f, Nx D (({ G with clock := G.clock + 1, trace := G.trace ++ [⟨c, p, q⟩] } : PDisk).crash f) ∧ AgeOk (({ G with clock := G.clock + 1, trace := G.trace ++ [⟨c, p, q⟩] } : PDisk).crash f) := fun f => by
      constructor
      · refine ⟨hT.clock, fun i m hm => ?_⟩
        obtain ⟨m', k1, k2⟩ := hT.inos i m hm; refine ⟨PDisk.tear f.torn m', by rw [crash_inode, k1]; rfl, ?_⟩
        rcases k2 with k2 | k2
        · exact .inl ((tear_same _ _).trans k2)
        exact .inr (by rw [(tear_same f.torn m').1]; exact k2)
      intro m hm
      obtain ⟨m0, hm0, rfl⟩ := List.mem_map.1 (show m ∈ G.inos.map (PDisk.tear f.torn) from hm); rw [(tear_same f.torn m0).1]; exact hA m0 hm0
    have hclk : D.clock < G.clock + 1 := by omega
    unfold PDisk.step
    split
    · rename_i hh
      rw [hgo] at hh
      cases hh
    dsimp only
    split
    · exact ⟨hT, hA, fun _ => hclk⟩
    split
    · exact ⟨(hcr _).1, (hcr _).2, fun h => by cases h⟩
    split
    · exact ⟨hT, hA, fun h => by cases h⟩
    exact ⟨hT, hA, fun _ => hclk⟩
  rw [h4 ho]; unfold PDisk.step; rw [ho, if_pos rfl]; exact ⟨Nx.refl D, h, fun h => by cases h⟩
theorem age_call {D : PDisk} (h : AgeOk D) (c p q : ByteArray) (k : PDisk → Bool → Int × PDisk) (hk : ∀ F full, Nx D F → AgeOk F → D.clock < F.clock → Nx D (k F full).2 ∧ AgeOk (k F full).2) : Nx D (D.edited.call c p q k).2 ∧ AgeOk (D.edited.call c p q k).2 := by
  obtain ⟨h1, h2, h3⟩ := age_step h c p q; unfold PDisk.call; generalize D.edited.step c p q = st at h1 h2 h3; obtain ⟨full, e, F⟩ := st; dsimp only at h1 h2 h3 ⊢
  split
  · exact ⟨h1, h2⟩
  rename_i he
  exact hk F full h1 h2 (h3 (by simpa using he))
theorem age_lay {D F : PDisk} (h1 : Nx D F) (h2 : AgeOk F) (p : ByteArray) (n : Node) (full : Bool) (l : List (Bool × Int)) : Nx D (F.lay p n full l).2 ∧ AgeOk (F.lay p n full l).2 := by
  unfold PDisk.lay; dsimp only
  split
  · exact ⟨h1, h2⟩
  refine ⟨h1.app (l := [⟨n, F.clock, decide (n.kind = 1)⟩]) rfl (Nat.le_refl _), fun m hm => ?_⟩
  rcases List.mem_append.1 (show m ∈ F.inos ++ [⟨n, F.clock, decide (n.kind = 1)⟩] from hm) with hm | hm
  · exact h2 m hm
  simp at hm; subst hm; exact Int.le_refl _
theorem age_same {D F H : PDisk} (h1 : Nx D F) (h2 : AgeOk F) (hi : H.inos = F.inos) (hc : H.clock = F.clock) : Nx D H ∧ AgeOk H := ⟨h1.same hi (by omega), fun m hm => by rw [hi] at hm; rw [hc]; exact h2 m hm⟩
theorem age_ask {D : PDisk} (h : AgeOk D) (c : CallP) : Nx D (askE D c).2 ∧ AgeOk (askE D c).2 := by
  unfold askE
  split
  · refine age_call h _ _ _ _ fun F full h1 h2 h3 => ?_
    unfold PDisk.write_
    cases hat : F.at_ c.path with
    | none => exact age_lay h1 h2 _ _ _ _
    | some o =>
      dsimp only
      split
      · exact ⟨h1, h2⟩
      refine ⟨h1.set (x := ⟨⟨⟨#[]⟩, 1, c.data, c.mode⟩, F.clock, true⟩) rfl (Nat.le_refl _) (.inl (by show (D.clock : Int) < (F.clock : Int); omega)), fun m hm => ?_⟩
      rcases List.mem_or_eq_of_mem_set (show m ∈ F.inos.set (lookN F.names c.path - 1) ⟨⟨⟨#[]⟩, 1, c.data, c.mode⟩, F.clock, true⟩ from hm) with hm | rfl
      · exact h2 m hm
      exact Int.le_refl _
  split
  · exact age_call h _ _ _ _ fun F full h1 h2 h3 => age_lay h1 h2 _ _ _ _
  split
  · exact age_call h _ _ _ _ fun F full h1 h2 h3 => age_lay h1 h2 _ _ _ _
  split
  · refine age_call h _ _ _ _ fun F full h1 h2 h3 => ?_
    unfold PDisk.remove_; dsimp only
    split
    · exact ⟨h1, h2⟩
    exact age_same h1 h2 rfl rfl
  split
  · refine age_call h _ _ _ _ fun F full h1 h2 h3 => ?_
    unfold PDisk.move_; dsimp only
    split
    · exact ⟨h1, h2⟩
    split
    · exact ⟨h1, h2⟩
    exact age_same h1 h2 rfl rfl
  split
  · refine age_call h _ _ _ _ fun F full h1 h2 h3 => ?_
    unfold PDisk.replace_; dsimp only
    split
    · exact ⟨h1, h2⟩
    exact age_same h1 h2 rfl rfl
  split
  · refine age_call h _ _ _ _ fun F full h1 h2 h3 => ?_
    unfold PDisk.sync_; dsimp only
    split
    · exact ⟨h1, h2⟩
    cases hat : F.at_ c.path with
    | none => exact ⟨h1, h2⟩
    | some o =>
      dsimp only
      have hat2 : F.inode (lookN F.names c.path) = some o := hat
      have h0 : lookN F.names c.path ≠ 0 := fun e => by rw [e] at hat2; unfold PDisk.inode at hat2; rw [if_pos rfl] at hat2; cases hat2
      refine ⟨h1.set (x := { o with dirty := false }) rfl (Nat.le_refl _) (.inr (.inr ⟨o, by rw [show lookN F.names c.path - 1 + 1 = lookN F.names c.path by omega]; exact hat2, ⟨rfl, rfl, rfl, List.prefix_refl _⟩⟩)), fun m hm => ?_⟩
      rcases List.mem_or_eq_of_mem_set (show m ∈ F.inos.set (lookN F.names c.path - 1) { o with dirty := false } from hm) with hm | rfl
      · exact h2 m hm
      refine h2 o ?_
      unfold PDisk.inode at hat2; rw [if_neg h0] at hat2; exact List.mem_of_getElem? hat2
  split
  · exact age_call h _ _ _ _ fun F full h1 h2 h3 => age_same h1 h2 rfl rfl
  split
  · obtain ⟨h1, h2, -⟩ := age_step h ⟨#[71, 101, 116]⟩ c.path ⟨#[]⟩
    dsimp only
    unfold PDisk.get; generalize D.edited.step ⟨#[71, 101, 116]⟩ c.path ⟨#[]⟩ = st at h1 h2; obtain ⟨full, e, F⟩ := st; dsimp only at h1 h2 ⊢
    split <;> exact ⟨h1, h2⟩
  split
  · obtain ⟨h1, h2, -⟩ := age_step h ⟨#[78, 97, 109, 101, 115]⟩ c.path ⟨#[]⟩
    dsimp only
    unfold PDisk.namesC; generalize D.edited.step ⟨#[78, 97, 109, 101, 115]⟩ c.path ⟨#[]⟩ = st at h1 h2; obtain ⟨full, e, F⟩ := st; dsimp only at h1 h2 ⊢
    split <;> exact ⟨h1, h2⟩
  split
  · exact age_same (Nx.refl D) h rfl rfl
  exact ⟨Nx.refl D, h⟩
theorem seen_new {E : PDisk} {i : Nat} {m : Ino} {p : ByteArray} (h : E.inode i = some m) (ht : m.time ≤ E.clock) : SeenIn E ⟨{ m.node with path := p }, i, m.node.data.size, m.time⟩ := ⟨rfl, ht, i, m, rfl, h, .inl ⟨rfl, rfl, rfl, List.prefix_refl _⟩⟩
theorem seen_same {E : PDisk} {x : SeenP} {i : Nat} {m : Ino} {p : ByteArray} (hx : SeenIn E x) (h : E.inode i = some m) (h1 : x.n.path = p) (h2 : x.ino = i) (h3 : x.size = m.node.data.size) (h4 : x.time = m.time) : x.n = { m.node with path := p } := by
  obtain ⟨k1, -, j, m', k2, k3, k4⟩ := hx; have hij : j = i := by omega
  subst hij; rw [h] at k3
  cases k3
  rcases k4 with ⟨a1, a2, a3, a4⟩ | k4
  · have hl : (str m.node.data).length = (str x.n.data).length := by rw [str_size, str_size]; omega
    have hd : m.node.data = x.n.data := str_inj (a4.eq_of_length hl)
    obtain ⟨⟨xp, xk, xd, xm⟩, _, _, _⟩ := x; dsimp only at h1 a2 a3 hd ⊢; rw [h1, a2, a3, hd]
  omega
theorem age_new (t : List Node) : AgeOk (newD t) := fun m hm => by
  obtain ⟨n, _, rfl⟩ := List.mem_map.1 (show m ∈ t.map fun n => (⟨n, 0, false⟩ : Ino) from hm); exact Int.le_refl _
end
section
open Go.RowKit Go.Op Go.Maps
def RunE (w0 w : World) (p : Nat) (D : PDisk) (n : Nat) (k : List Nat) : Prop :=
  ∃ G, DSE w p G D n ∧ Off [] w0 w ∧ w0.heap.size ≤ p ∧ (∀ b ∈ G.parts, w0.heap.size ≤ b) ∧ ∀ b ∈ k, b < w.heap.size ∧ b ∉ p :: G.parts
section
variable {w0 wr w w' : World} {p n : Nat} {D : PDisk} {k : List Nat}
theorem Run.e (h : Run w0 w p D n) : RunE w0 w p D n [] := by
  obtain ⟨G, h1, h2, h3, h4⟩ := h; exact ⟨G, h1.e, h2, h3, h4, fun b hb => by cases hb⟩
theorem RunE.more {k' : List Nat} (h : RunE w0 wr p D n k) (ho : Off [] wr w) (hk : ∀ b ∈ k', wr.heap.size ≤ b ∧ b < w.heap.size) : RunE w0 w p D n (k' ++ k) := by
  obtain ⟨G, h1, h2, h3, h4, h5⟩ := h; refine ⟨G, h1.off ho, h2.trans_nil ho, h3, h4, fun b hb => ?_⟩
  rcases List.mem_append.1 hb with hb | hb
  · refine ⟨(hk b hb).2, fun hm => ?_⟩
    have h6 := (hk b hb).1
    rcases List.mem_cons.1 hm with rfl | hm
    · have := h1.m.blk.lt; omega
    have := h1.m.parts.lt hm; omega
  have h6 := h5 b hb; exact ⟨Nat.lt_of_lt_of_le h6.1 ho.size, h6.2⟩
theorem RunE.off (h : RunE w0 w p D n k) (ho : Off [] w w') : RunE w0 w' p D n k := h.more (k' := []) ho (fun b hb => by cases hb)
theorem RunE.since (h : RunE w0 w p D n k) : Off [] w0 w := by obtain ⟨_, _, h2, _⟩ := h; exact h2
theorem RunE.le {m : Nat} (h : RunE w0 w p D n k) (hm : n ≤ m) : RunE w0 w p D m k := by
  obtain ⟨G, h1, h2⟩ := h; exact ⟨G, ⟨h1.m, h1.sb, PDisk.ok_mono h1.ok hm, h1.tabs⟩, h2⟩
theorem RunE.ok (h : RunE w0 w p D n k) : Ok D n := by obtain ⟨G, h1, -⟩ := h; exact h1.ok
theorem RunE.drop {k' : List Nat} (h : RunE w0 w p D n k) (hk : ∀ b ∈ k', b ∈ k) : RunE w0 w p D n k' := by
  obtain ⟨G, h1, h2, h3, h4, h5⟩ := h; exact ⟨G, h1, h2, h3, h4, fun b hb => h5 b (hk b hb)⟩
theorem RunE.tabs (h : RunE w0 w p D n k) : Tabs w := by obtain ⟨_, h1, _⟩ := h; exact h1.tabs.tabs
theorem RunE.to_ {G : Geo} {D' : PDisk} {n' : Nat} (h1 : DSE w p G D n) (h2 : Off [] w0 w) (h3 : w0.heap.size ≤ p) (h4 : ∀ b ∈ G.parts, w0.heap.size ≤ b) (h5 : ∀ b ∈ k, b < w.heap.size ∧ b ∉ p :: G.parts) (hT : DSETo w p G.parts w' D' n') : RunE w0 w' p D' n' k ∧ Kept k w w' := by
  obtain ⟨G2, k1, k2, k3⟩ := hT; refine ⟨⟨G2, k1, h2.trans k2 (fun x hx hm => ?_), h3, fun b hb => ?_, fun b hb => ?_⟩, fun b hb => k2.block b (h5 b hb).1 (h5 b hb).2⟩
  · exfalso
    rcases List.mem_cons.1 hm with rfl | hm
    · omega
    have := h4 x hm; omega
  · rcases k3 b hb with h | h
    · exact h4 b h
    exact Nat.le_trans h2.size h
  obtain ⟨a1, a2⟩ := h5 b hb; refine ⟨Nat.lt_of_lt_of_le a1 k2.size, fun hm => ?_⟩
  rcases List.mem_cons.1 hm with rfl | hm
  · exact a2 (List.mem_cons_self ..)
  rcases k3 b hm with h | h
  · exact a2 (List.mem_cons_of_mem _ h)
  omega
theorem RunE.call {f : FuncId} {args : Array Value} {R : Ending → World → Prop} {D' : PDisk} {n' : Nat} (h : RunE w0 w p D n k) (hc : ∀ G, DSE w p G D n → Calls Tryz.prog f args w fun e w' => R e w' ∧ DSETo w p G.parts w' D' n') :
    Calls Tryz.prog f args w fun e w' => R e w' ∧ RunE w0 w' p D' n' k ∧ Kept k w w' := by
  obtain ⟨G, h1, h2, h3, h4, h5⟩ := h; exact (hc G h1).mono fun e w' ⟨he, hT⟩ => ⟨he, RunE.to_ h1 h2 h3 h4 h5 hT⟩
theorem runE_boot0 (h : RunE w0 w p D n k) :
    Calls Tryz.prog 12 #[.pointer (some ⟨p, 0, none⟩), .slice none 0 0, .slice none 0 0] w fun e w' => e = .returned (.tuple #[]) ∧ RunE w0 w' p (D.boot []) n k ∧ Kept k w w' :=
  h.call (R := fun e _ => e = .returned (.tuple #[])) fun G hG => dboot_callE0 p n G D none [] 0 0 w hG (FRow.nil _ _) rfl (by decide) (fun _ => rfl)
theorem runE_boot (h : RunE w0 w p D n k) (fp ep : Option Addr) (fs : List FateP) (es : List EditP) (nf c ne ce : Nat) (hF : FRow w fp fs) (hn : fs.length = nf) (hb : nf ≤ 4398046511103) (hpn : fp = none → fs = [])
    (hER : ERow w0 ep es) (hne : es.length = ne) (hnb : ne ≤ 1000000) (hvl : ∀ e ∈ es, e.value.length ≤ 2932031007402 ∧ Fits e.value) :
    Calls Tryz.prog 12 #[.pointer (some ⟨p, 0, none⟩), .slice fp nf c, .slice ep ne ce] w fun e w' => e = .returned (.tuple #[]) ∧ ∃ ev, RunE w0 w' p (D.bootE fs es ev) n k ∧ Kept k w w' := by
  obtain ⟨G, h1, h2, h3, h4, h5⟩ := h; refine (dboot_callE p n G D fp ep fs es nf c ne ce w h1 hF hn hb hpn (fun W hW => hER.off (h2.trans hW (fun x hx hm => ?_))) hne hnb hvl).mono fun e w' ⟨he, ev, hT⟩ => ⟨he, ev, RunE.to_ h1 h2 h3 h4 h5 hT⟩
  exfalso
  rcases List.mem_cons.1 hm with rfl | hm
  · omega
  have := h4 x hm; omega
theorem askE_eq (D : PDisk) (c : CallP) : (askE D c).2 = askD D.edited c ∨ (askE D c).2 = D.boot [] ∨ (askE D c).2 = D := by
  unfold askE askD
  by_cases h0 : c.what = 0; · rw [if_pos h0, if_pos h0]; exact .inl rfl
  rw [if_neg h0, if_neg h0]
  by_cases h1 : c.what = 1; · rw [if_pos h1, if_pos h1]; exact .inl rfl
  rw [if_neg h1, if_neg h1]
  by_cases h2 : c.what = 2; · rw [if_pos h2, if_pos h2]; exact .inl rfl
  rw [if_neg h2, if_neg h2]
  by_cases h3 : c.what = 3; · rw [if_pos h3, if_pos h3]; exact .inl rfl
  rw [if_neg h3, if_neg h3]
  by_cases h4 : c.what = 4; · rw [if_pos h4, if_pos h4]; exact .inl rfl
  rw [if_neg h4, if_neg h4]
  by_cases h5 : c.what = 5; · rw [if_pos h5, if_pos h5]; exact .inl rfl
  rw [if_neg h5, if_neg h5]
  by_cases h6 : c.what = 6; · rw [if_pos h6, if_pos h6]; exact .inl rfl
  rw [if_neg h6, if_neg h6]
  by_cases h7 : c.what = 7; · rw [if_pos h7, if_pos h7]; exact .inl rfl
  rw [if_neg h7, if_neg h7]
  by_cases h8 : c.what = 8; · rw [if_pos h8, if_pos h8]; exact .inl rfl
  rw [if_neg h8, if_neg h8]
  by_cases h9 : c.what = 9; · rw [if_pos h9, if_pos h9]; exact .inl rfl
  rw [if_neg h9, if_neg h9]
  by_cases h10 : c.what = 10
  · rw [if_pos h10]; exact .inr (.inl rfl)
  rw [if_neg h10]; exact .inr (.inr rfl)
theorem fine_boot (h : Fine D n) : Fine (D.boot []) n := ⟨PDisk.boot_ok h.ok [] (by decide), h.good.of (h.good.tree.of rfl rfl rfl (KS.of_inos rfl)) rfl rfl rfl, h.light.same rfl⟩
theorem edited_edits (D : PDisk) : D.edited.edits = D.edits := by
  cases ho : D.off
  · obtain ⟨-, -, -, -, k5, -⟩ := edits_keep (D.trace.length : Int) D.edits D
    unfold PDisk.edited; rw [ho]; exact k5
  rw [edited_off ho]
theorem askD_edits (D : PDisk) (c : CallP) : (askD D c).edits = D.edits ∨ (askD D c).edits = [] := by
  unfold askD
  split; · exact .inl (write_edits _ _ _ _)
  split; · exact .inl (mkdir_edits _ _)
  split; · exact .inl (link_edits _ _ _)
  split; · exact .inl (remove_edits _ _)
  split; · exact .inl (move_edits _ _ _)
  split; · exact .inl (replace_edits _ _ _)
  split; · exact .inl (sync_edits _ _)
  split; · exact .inl (flush_edits _)
  split; · exact .inl (get_edits _ _)
  split; · exact .inl (names_edits _ _)
  split; · exact .inr rfl
  exact .inl rfl
end
end
section
open Go.RowKit Go.Op Go.Maps
section
variable {w0 w w' : World} {p n C : Nat} {D : PDisk} {k : List Nat}
def EdC (C : Nat) (D : PDisk) : Prop := costE D.edits ≤ C ∧ ∀ e ∈ D.edits, Fits e.value
theorem EdC.eok (h : EdC C D) (hf : Fine D n) : EditsOk D (n + C) := ⟨fun i => PDisk.ok_mono ((hf.eokC h.2).ok i) (by have := h.1; omega), (hf.eokC h.2).light⟩
theorem EdC.edited (h : EdC C D) (hf : Fine D n) : Fine D.edited (n + C) := (hf.editedC h.2).mono (by have := h.1; omega)
theorem EdC.of {E : PDisk} (h : EdC C D) (he : E.edits = D.edits ∨ E.edits = []) : EdC C E := by
  rcases he with e | e
  · exact ⟨by rw [e]; exact h.1, by rw [e]; exact h.2⟩
  exact ⟨by rw [e]; exact Nat.zero_le _, by rw [e]; intro x hx; cases hx⟩
theorem edC_ask (h : EdC C D) (c : CallP) : EdC C (askE D c).2 := by
  rcases askE_eq D c with e | e | e <;> rw [e]
  · refine h.of ?_
    rw [← edited_edits D]; exact askD_edits _ c
  · exact h.of (.inr rfl)
  exact h
theorem fineC_ask {m : Nat} (h : Fine D n) (hd : EdC C D) (c : CallP) (hz1 : c.data.size ≤ maxLen) (hz2 : c.to_.size ≤ maxLen) (hk : Ok (askE D c).2 m) : Fine (askE D c).2 m := by
  have he := hd.edited h; refine ⟨hk, ?_, ?_⟩
  · rcases askE_eq D c with e | e | e <;> rw [e]
    · exact he.good.ask he.ok c
    · exact (fine_boot h).good
    exact h.good
  rcases askE_eq D c with e | e | e <;> rw [e]
  · exact he.light.ask c hz1 hz2
  · exact (fine_boot h).light
  exact h.light
end
end
end Go.Proofs.YthciejabapdbgaaGreatDoor
