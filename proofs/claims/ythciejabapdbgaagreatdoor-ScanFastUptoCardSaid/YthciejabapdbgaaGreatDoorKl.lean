/- Texts of this claim, one behind the other: GlobS GlobL ScanP GlobG Seen WalkM See Down WalkC. Conditions: what each lemma states. -/
import Derived.Test.YthciejabapdbgaaGreatDoorKj
import Derived.Test.YthciejabapdbgaaGreatDoorKk
import Derived.Test.YthciejabapdbgaaGreatDoorKa
import Derived.Test.YthciejabapdbgaaGreatDoorKi
import Derived.Deep.OwnRows
import Derived.Deep.CutBlock
import Derived.Maps.AppendAt
set_option linter.unusedVariables false
set_option linter.unusedSimpArgs false
namespace Go.Proofs.YthciejabapdbgaaGreatDoor
section
open Go.RowKit Go.Op Go.Maps
def sepB : ByteArray := ⟨#[47]⟩
theorem indexB_sep (s : ByteArray) : Lib.indexB s sepB = Lib.indexByte (str s) 47 := Lib.one s sepB rfl
theorem countB_sep : ∀ (n : Nat) (s : ByteArray), s.size ≤ n → Lib.countB s sepB = (str s).count 47
  | n, s, hn => by
    rcases slash_cases s with ⟨h1, h2⟩ | ⟨i, h1, h2, h3, h4⟩
    · rw [Lib.countB_miss s sepB (by rw [indexB_sep]; exact h1), List.count_eq_zero.2 h2]
    rw [Lib.countB_hit s sepB i (by decide) (by rw [indexB_sep]; exact h1)]; have hz : (s.extract (i + sepB.size) s.size).size = s.size - (i + 1) := by simp [sepB]; rfl
    match n, hn with
    | 0, hn => omega
    | n + 1, hn =>
      rw [countB_sep n _ (by rw [hz]; omega), show i + sepB.size = i + 1 from rfl, str_drop]
      conv => rhs; rw [h4]
      rw [List.count_append, List.count_cons_self, List.count_eq_zero.2 h3]; omega
theorem splitB_sep : ∀ (n : Nat) (s : ByteArray), s.size ≤ n → (Lib.splitB sepB 0 (Lib.countB s sepB) s).map str = parts (str s)
  | n, s, hn => by
    rcases slash_cases s with ⟨h1, h2⟩ | ⟨i, h1, h2, h3, h4⟩
    · rw [Lib.splitB_miss sepB 0 _ s (by rw [indexB_sep]; exact h1), parts_clean _ h2]
      rfl
    have hx : Lib.indexB s sepB = i := by rw [indexB_sep]; exact h1
    have hz : (s.extract (i + sepB.size) s.size).size = s.size - (i + 1) := by simp [sepB]; rfl
    rw [Lib.countB_hit s sepB i (by decide) hx, Nat.add_comm, Lib.splitB_hit sepB 0 _ s i hx, List.map_cons]
    match n, hn with
    | 0, hn => omega
    | n + 1, hn =>
      rw [splitB_sep n _ (by rw [hz]; omega), show i + sepB.size = i + 1 from rfl, str_drop, parts_cut h3 h4]
      congr 1
      rw [str_extract]
      rfl
set_option maxRecDepth 100000 in
theorem gensplit_any (s : ByteArray) (w : World) (hs : s.size ≤ 1048576) :
    Calls Tryz.prog 390 #[.string s, .string sepB, .int .i64 0, .int .i64 (-1)] w fun e w' => e = .returned (.slice (some ⟨w.heap.size, 0, none⟩) (Lib.splitB sepB 0 (Lib.countB s sepB) s).length (Lib.countB s sepB + 1)) ∧ w' = w.alloc (.cells (Lib.cellsOf (Lib.splitB sepB 0 (Lib.countB s sepB) s) (Lib.countB s sepB + 1)) 9) := by
  have hc := countB_sep s.size s (Nat.le_refl _); have hcl : (str s).count 47 ≤ s.size := by rw [← str_size]; exact List.count_le_length
  have h := Any.strings_genSplit_core Tryz.lays221 (by kernel_rfl) s sepB 0 (-1) (Lib.countB s sepB + 1) w (by omega) (by decide) (by decide)
    (fun x c hx => (Tryz.strings_Index_one x 47 _).mono fun e w' ⟨h1, h2⟩ => ⟨by rw [h1, indexB_sep]; rfl, h2⟩)
    ((Tryz.strings_Count_one s 47 w).mono fun e w' ⟨h1, h2⟩ => ⟨by rw [h1, hc]; rfl, h2⟩) (by decide) (by decide) (by
      rw [if_pos (by decide)]; omega)
  rw [Nat.add_sub_cancel] at h; exact h
def SplRet (s : ByteArray) (w : World) (e : Ending) (w' : World) : Prop :=
  ∃ (L : List ByteArray) (p : Option Addr) (n c : Nat), e = .returned (.slice p n c) ∧ L.length = n ∧ n ≤ c ∧ strsOf L = parts (str s) ∧ StrB w' p L ∧ Off [] w w'
set_option maxRecDepth 100000 in
theorem ssplit_any (s : ByteArray) (w : World) (hs : s.size ≤ 1048576) : Calls Tryz.prog 354 #[.string s, .string sepB] w (SplRet s w) := by
  have HS := Lib.hid (splitB_sep s.size s (Nat.le_refl _)); have HL := Lib.hid (Lib.splitB_all sepB (by decide) 0 _ s rfl); have HG := Lib.hid (gensplit_any s w hs)
  go_enter Tryz.func354, Tryz.ntmps354
  go_wp2_with fail
  refine HG.out.mono ?_
  rintro e w1 ⟨rfl, rfl⟩
  go_wp2_with fail
  go_ret
  refine ⟨_, _, _, _, rfl, rfl, by rw [HL.out]; exact Nat.le_refl _, HS.out, fun _ => ⟨w.heap.size, rfl, ⟨_, Blk.new w _ _⟩, fun i x hx => ?_⟩, (Off.refl _ _).alloc _⟩
  rw [(Blk.new w _ _).cell]; unfold Lib.cellsOf; rw [HL.out, Nat.sub_self]; simp [hx]
set_option maxRecDepth 100000 in
theorem nsplit_any (s : ByteArray) (w : World) (hs : s.size ≤ 1048576) (hT : Tabs w) (hok : okPath (str s) = true) : Calls Tryz.prog 355 #[.string s] w (SplRet s w) := by
  have HSP := Lib.hid (fun W => ssplit_any s W hs); have HP := Lib.hid (path_v s w hT true hok); clear hT hok
  go_enter Tryz.func355, Tryz.ntmps355
  go_wp2_with fail
  refine HP.out.mono ?_
  rintro e w1 ⟨rfl, ho⟩; have HO := Lib.hid ho; clear ho
  go_wp2_with fail
  refine (HSP.out _).mono ?_
  rintro e w2 ⟨L, p, n, c, rfl, h1, h2, h3, h4, h5⟩; have HR := Lib.hid (And.intro h1 (And.intro h2 (And.intro h3 (And.intro h4 h5)))); clear h1 h2 h3 h4 h5
  go_wp2_with fail
  go_ret
  exact ⟨L, p, n, c, rfl, HR.out.1, HR.out.2.1, HR.out.2.2.1, HR.out.2.2.2.1, HO.out.trans_nil HR.out.2.2.2.2⟩
theorem StrB.off_nil {w w' : World} {p : Option Addr} {L : List ByteArray} (h : StrB w p L) (ho : Off [] w w') : StrB w' p L := fun hne => by
  obtain ⟨g, rfl, ⟨cs, hB⟩, hc⟩ := h hne; exact ⟨g, rfl, ⟨cs, hB.off ho (by simp)⟩, fun i x hx => (ho.cell (p := ⟨g, i, none⟩) hB.lt (by simp)).trans (hc i x hx)⟩
theorem strs_small {L : List ByteArray} {s : ByteArray} (h : strsOf L = parts (str s)) (hs : s.size ≤ 1048576) : (∀ x ∈ L, x.size ≤ 1048576) := fun x hx => by
  have h1 : str x ∈ parts (str s) := by rw [← h]; exact List.mem_map.2 ⟨x, hx, rfl⟩
  have h2 : ∀ (s : Str) (x : Str), x ∈ parts s → x.length ≤ s.length := by
    intro s
    induction s with
    | nil => intro x hx; simp [parts] at hx; simp [hx]
    | cons c s ih =>
      intro x hx
      by_cases hc : c = 47
      · subst hc
        rw [parts_slash] at hx
        rcases List.mem_cons.1 hx with rfl | hx
        · simp
        have := ih x hx; simp; omega
      obtain ⟨a, t, e, e'⟩ := parts_cons hc s; rw [e'] at hx
      rcases List.mem_cons.1 hx with rfl | hx
      · have := ih a (by rw [e]; simp); simp; omega
      have := ih x (by rw [e]; simp [hx]); simp; omega
  have h3 := h2 _ _ h1; rw [str_size, str_size] at h3; omega
theorem strs_count {L : List ByteArray} {s : ByteArray} (h : strsOf L = parts (str s)) : L.length = (str s).count 47 + 1 := by
  rw [← strs_len L, h, parts_length]
set_option maxRecDepth 100000 in
set_option maxHeartbeats 8000000 in
theorem base_small (s : ByteArray) (hs : s.size ≤ 1048576) : (bs (base (str s))).size ≤ 1048576 := by
  unfold base
  split
  · have h := strs_small (L := (parts (str s)).map bs) (by unfold strsOf; rw [List.map_map, show (str ∘ bs) = id from funext str_bs, List.map_id]) hs
    exact h _ (List.mem_map.2 ⟨_, List.getLast_mem _, rfl⟩)
  rw [bs_size]; simp
theorem gmatch_any (pat path : ByteArray) (w : World) (h1 : pat.size ≤ 1048576) (h2 : path.size ≤ 1000000) (hT : Tabs w) :
    Calls Tryz.prog 309 #[.string pat, .string path] w fun e w' => e = .returned (.bool (globV (str pat) (str path))) ∧ Off [] w w' := by
  have HT := Lib.hid hT; clear hT; have HCK := Lib.hid (fun W hW => gcheck_any pat W h1 hW)
  cases hck : checkV (str pat)
  · have HV := Lib.hid (show globV (str pat) (str path) = false by unfold globV; rw [hck]; rfl)
    have HK := Lib.hid hck; clear hck
    go_enter Tryz.func309, Tryz.ntmps309
    go_wp2_with fail
    refine (HCK.out _ HT.out).mono ?_
    rintro e w1 ⟨⟨v, rfl⟩, ho⟩; rw [HK.out, if_neg (by simp)]
    go_wp2_with fail
    go_ret
    exact ⟨by rw [HV.out]; rfl, ho⟩
  have HK := Lib.hid hck
  cases hok : okPath (str path)
  · have HV := Lib.hid (show globV (str pat) (str path) = false by unfold globV; rw [hok]; simp)
    have HP := Lib.hid (fun W hW => path_v path W hW false hok); clear hck hok
    go_enter Tryz.func309, Tryz.ntmps309
    go_wp2_with fail
    refine (HCK.out _ HT.out).mono ?_
    rintro e w1 ⟨⟨v, rfl⟩, ho⟩; have HO := Lib.hid ho; clear ho; rw [HK.out, if_pos rfl]
    go_wp2_with fail
    refine (HP.out _ (HT.out.off HO.out)).mono ?_
    rintro e w2 ⟨rfl, ho2⟩
    go_wp2_with fail
    go_ret
    exact ⟨by rw [HV.out]; rfl, HO.out.trans_nil ho2⟩
  have HP := Lib.hid (fun W hW => path_v path W hW true hok); have HPS := Lib.hid hok; have HV := Lib.hid (show globV (str pat) (str path) = (if str pat = [42, 42] then true else if 47 ∈ str pat then gpartsV (parts (str pat)) (parts (str path)) else gpartV (str pat) (base (str path))) by unfold globV; rw [hck, hok]; rfl); have hps : pat.size ≤ 400 := by
    unfold checkV at hck; simp only [Bool.and_eq_true, decide_eq_true_eq] at hck; rw [← str_size]; exact hck.1.1.2
  clear hck hok
  by_cases hst : str pat = [42, 42]
  · have f1 : (pat.toList == [42, 42]) = true := by rw [toList_str, hst]; rfl
    have HV2 := Lib.hid (show globV (str pat) (str path) = true by rw [HV.out, if_pos hst]); clear hst
    go_enter Tryz.func309, Tryz.ntmps309
    go_wp2_with fail
    refine (HCK.out _ HT.out).mono ?_
    rintro e w1 ⟨⟨v, rfl⟩, ho⟩; have HO := Lib.hid ho; clear ho; rw [HK.out, if_pos rfl]
    go_wp2_with fail
    refine (HP.out _ (HT.out.off HO.out)).mono ?_
    rintro e w2 ⟨rfl, ho2⟩
    go_wp2_with fail
    go_ret
    exact ⟨by rw [HV2.out]; rfl, HO.out.trans_nil ho2⟩
  have f1 : (pat.toList == [42, 42]) = false := by rw [toList_str]; exact beq_eq_false_iff_ne.2 hst
  have hix : decide (0 ≤ Lib.indexByte pat.data.toList 47) = decide (47 ∈ str pat) := by
    rw [decide_eq_decide]
    rcases slash_cases pat with ⟨k1, k2⟩ | ⟨i, k1, k2, k3, k4⟩
    · show 0 ≤ Lib.indexByte (str pat) 47 ↔ _
      rw [k1]; exact ⟨fun h => by omega, fun h => absurd h k2⟩
    show 0 ≤ Lib.indexByte (str pat) 47 ↔ _
    rw [k1]; exact ⟨fun _ => by rw [k4]; simp, fun _ => by omega⟩
  have HIX := Lib.hid hix
  by_cases hsl : 47 ∈ str pat
  · have HV2 := Lib.hid (show globV (str pat) (str path) = gpartsV (parts (str pat)) (parts (str path)) by rw [HV.out, if_neg hst, if_pos hsl])
    have HSL := Lib.hid (show decide (0 ≤ Lib.indexByte pat.data.toList 47) = true by rw [hix]; exact decide_eq_true hsl); clear hst hsl hix
    go_enter Tryz.func309, Tryz.ntmps309
    go_wp2_with fail
    refine (HCK.out _ HT.out).mono ?_
    rintro e w1 ⟨⟨v, rfl⟩, ho⟩; have HO := Lib.hid ho; clear ho; rw [HK.out, if_pos rfl]
    go_wp2_with fail
    refine (HP.out _ (HT.out.off HO.out)).mono ?_
    rintro e w2 ⟨rfl, ho2⟩; have HO2 := Lib.hid (HO.out.trans_nil ho2); clear ho2
    go_wp2_with fail
    refine (Tryz.strings_Contains_one _ 47 _).mono ?_
    rintro e w3 ⟨rfl, ew⟩; rw [ew, HSL.out]; clear ew
    go_wp2_with fail
    refine (ssplit_any pat _ h1).mono ?_
    rintro e w4 ⟨L, p, n, c, rfl, k1, k2, k3, k4, k5⟩; have HL := Lib.hid (And.intro k1 (And.intro k2 (And.intro k3 k4))); have HO4 := Lib.hid (HO2.out.trans_nil k5); clear k1 k2 k3 k4 k5
    go_wp2_with fail
    refine (nsplit_any path _ (by omega) (HT.out.off HO4.out) HPS.out).mono ?_
    rintro e w5 ⟨M, q, m, d, rfl, k1, k2, k3, k4, k5⟩; have HM := Lib.hid (And.intro k1 (And.intro k2 (And.intro k3 k4))); have HS5 := Lib.hid (HL.out.2.2.2.off_nil k5); have HO5 := Lib.hid (HO4.out.trans_nil k5); clear k1 k2 k3 k4 k5
    go_wp2_with fail
    refine (gparts_any p q L M n c m d _ HL.out.1 HM.out.1 HS5.out HM.out.2.2.2 (strs_small HL.out.2.2.1 h1) (strs_small HM.out.2.2.1 (by omega)) (by
      rw [strs_count HL.out.2.2.1]; have := List.count_le_length (a := (47 : UInt8)) (l := str pat); rw [str_size] at this; omega) (by
      rw [strs_count HM.out.2.2.1]; have := ok_depth HPS.out; rw [parts_length] at this; omega) (HT.out.off HO5.out)).mono ?_
    rintro e w6 ⟨rfl, ho6⟩
    go_wp2_with fail
    go_ret
    exact ⟨by rw [HV2.out, ← HL.out.2.2.1, ← HM.out.2.2.1]; rfl, HO5.out.trans_nil ho6⟩
  have HV2 := Lib.hid (show globV (str pat) (str path) = gpartV (str pat) (base (str path)) by rw [HV.out, if_neg hst, if_neg hsl]); have HSL := Lib.hid (show decide (0 ≤ Lib.indexByte pat.data.toList 47) = false by rw [hix]; exact decide_eq_false hsl); clear hst hsl hix
  go_enter Tryz.func309, Tryz.ntmps309
  go_wp2_with fail
  refine (HCK.out _ HT.out).mono ?_
  rintro e w1 ⟨⟨v, rfl⟩, ho⟩; have HO := Lib.hid ho; clear ho; rw [HK.out, if_pos rfl]
  go_wp2_with fail
  refine (HP.out _ (HT.out.off HO.out)).mono ?_
  rintro e w2 ⟨rfl, ho2⟩; have HO2 := Lib.hid (HO.out.trans_nil ho2); clear ho2
  go_wp2_with fail
  refine (Tryz.strings_Contains_one _ 47 _).mono ?_
  rintro e w3 ⟨rfl, ew⟩; rw [ew, HSL.out]; clear ew
  go_wp2_with fail
  refine (base_any path _ h2 (HT.out.off HO2.out)).mono ?_
  rintro e w4 ⟨rfl, ho4⟩; have HO4 := Lib.hid (HO2.out.trans_nil ho4); clear ho4
  go_wp2_with fail
  refine (gpart_any pat (bs (base (str path))) _ h1 (base_small path (by omega)) (HT.out.off HO4.out)).mono ?_
  rintro e w5 ⟨rfl, ho5⟩
  go_wp2_with fail
  go_ret
  exact ⟨by rw [HV2.out, str_bs]; rfl, HO4.out.trans_nil ho5⟩
end
section
open Go.RowKit Go.Op
attribute [local go_sem] Oper.semAt_some
def ruleV (r : RuleP) : Value := .agg #[.bool r.ignore, .string r.pattern]
def RlB (W : World) (p : Option Addr) (L : List RuleP) : Prop :=
  L ≠ [] → ∃ a : Addr, p = some a ∧ a.block < W.heap.size ∧ ∀ (i : Nat) x, L[i]? = some x → W.cell? (a.add (i * 2)) = some (.bool x.ignore) ∧ W.cell? ⟨(a.add (i * 2)).block, (a.add (i * 2)).off + 1, none⟩ = some (.string x.pattern)
theorem RlB.off {W W' : World} {p L} (h : RlB W p L) (ho : Off [] W W') : RlB W' p L := fun hL => by
  obtain ⟨a, e, hb, hc⟩ := h hL; refine ⟨a, e, Nat.lt_of_lt_of_le hb ho.size, fun i x hx => ⟨(ho.cell (by rw [add_block]; exact hb) (by simp)).trans (hc i x hx).1, (ho.cell (p := ⟨(a.add (i * 2)).block, (a.add (i * 2)).off + 1, none⟩) (by show (a.add (i * 2)).block < _; rw [add_block]; exact hb) (by simp)).trans (hc i x hx).2⟩⟩
def BackP (p : Option Addr) (n c : Nat) (w : World) (e : Ending) (w' : World) : Prop :=
  ∃ g, e = .returned (.func (.func 351) #[] #[.pointer (some ⟨g, 0, none⟩)]) ∧ w.heap.size ≤ g ∧ Blk w' g 27 #[.slice p n c] ∧ Off [] w w'
set_option maxRecDepth 100000 in
theorem back_any (p : Option Addr) (n c : Nat) (w : World) : Calls Tryz.prog 308 #[.slice p n c] w (BackP p n c w) := by
  go_enter Tryz.func308, Tryz.ntmps308
  go_wp2_with fail
  go_ret
  exact ⟨w.heap.size, rfl, Nat.le_refl _, Blk.new w _ _, (Off.refl _ _).alloc _⟩
structure BwInv (l D g r : Nat) (rc : LoopState → Option Code → Loop) (w0 : World) (p : Option Addr) (n c : Nat) (W : World) : Prop where
  rdy : W.heap[l]? = some (.loop (rc .ready none))
  dfr : W.heap[D]? = some (.deferred (some []))
  s : Blk W g 27 #[.slice p n c]
  res : Blk W r 4 #[.bool false]
  off : Off [] w0 W
structure BwX (l D r : Nat) (v : Bool) (rc : LoopState → Option Code → Loop) (w0 : World) (W : World) : Prop where
  don : W.heap[l]? = some (.loop (rc .done (some .ret)))
  dfr : W.heap[D]? = some (.deferred (some []))
  res : Blk W r 4 #[.bool v]
  off : Off [] w0 W
theorem find_rev (M : RuleP → Bool) (L : List RuleP) (k : Nat) (x : RuleP) (h : L[k]? = some x) : (L.take (k + 1)).reverse.find? M = if M x then some x else (L.take k).reverse.find? M := by
  obtain ⟨hk, rfl⟩ := List.getElem?_eq_some_iff.1 h; rw [List.take_succ_eq_append_getElem hk, List.reverse_append]; simp only [List.reverse_cons, List.reverse_nil, List.nil_append, List.singleton_append, List.find?_cons]
  cases M L[k] <;> rfl
set_option maxRecDepth 100000 in
set_option maxHeartbeats 4000000 in
theorem back_in (m l D g r : Nat) (rc : LoopState → Option Code → Loop) (w0 : World) (M : RuleP → Bool) (L : List RuleP) (p : Option Addr) (c : Nat) (hLc : L.length ≤ c) (hbig : c ≤ 9223372036854775807) (hR : RlB w0 p L)
    (hY : ∀ (i : Nat) x W1, L[i]? = some x → BwInv l D g r rc w0 p L.length c W1 → YieldAt Fence.wide m Tryz.prog l #[.int .i64 i, ruleV x] W1 fun e W' =>
      (M x = false ∧ e = .returned (.bool true) ∧ BwInv l D g r rc w0 p L.length c W') ∨ (M x = true ∧ e = .returned (.bool false) ∧ BwX l D r x.ignore rc w0 W'))
    (W : World) (hI : BwInv l D g r rc w0 p L.length c W) :
    CallsIn Fence.wide (m + 1) Tryz.prog 351 #[.func (.yield l) #[] #[], .pointer (some ⟨g, 0, none⟩)] W fun e W' =>
      (∃ v, e = .returned v) ∧ ((L.reverse.find? M = none ∧ BwInv l D g r rc w0 p L.length c W') ∨ (∃ x, L.reverse.find? M = some x ∧ BwX l D r x.ignore rc w0 W')) := by
  have hro : Fence.wide.round = none := rfl
  refine callsIn_of_wp Tryz.func351 rfl trivial ?_ hro
  simp only [Tryz.ntmps351, List.size_toArray, List.length_cons, List.length_nil, Nat.reduceAdd, Nat.reduceSub, Array.replicate_succ, Array.replicate_zero, List.push_toArray, List.append_toArray, List.nil_append, List.cons_append]
  have hc1 := hI.s.cell 0; have HI := Lib.hid hI; clear hI; generalize hn : L.length = n at *
  have HN := Lib.hid hn; clear hn
  gi_wp2
  gi_loopw [3] (fun v wr => ∃ k, k ≤ n ∧ v = .int .i64 ((k : Int) - 1) ∧ BwInv l D g r rc w0 p n c wr ∧ L.reverse.find? M = (L.take k).reverse.find? M) (fun v wr => match v with | .int .i64 i => (i + 1).toNat | _ => 0)
  case atStart => exact ⟨n, Nat.le_refl _, rfl, HI.out, by rw [← HN.out, List.take_length]⟩
  case round =>
    obtain ⟨k, hk, rfl, hI, hf⟩ := hrel; have HF := Lib.hid hf; clear hf hc1
    match k, hk, HF with
    | 0, hk, HF =>
      gi_wp2
      go_end0
      exact ⟨⟨_, rfl⟩, .inl ⟨by rw [HF.out]; rfl, hI⟩⟩
    | k + 1, hk, HF =>
      obtain ⟨x, hx⟩ : ∃ x, L[k]? = some x := ⟨L[k]'(by rw [HN.out]; omega), List.getElem?_eq_getElem _⟩
      obtain ⟨ar, rfl, hB, hcs⟩ := (hR.off hI.off) (by rintro rfl; simp at hx); have hc0 := hI.s.cell 0; have hcr := (hcs k x hx).1; have hcr2 := (hcs k x hx).2; have hBa : (ar.add (k * 2)).block < wr.heap.size := by rw [add_block]; exact hB
      have c1 : (0 : Int) ≤ ((k + 1 : Nat) : Int) - 1 := by omega
      have c2 : ((k + 1 : Nat) : Int) - 1 < (n : Int) := by omega
      have e0 : ((k + 1 : Nat) : Int) - 1 = (k : Int) := by omega
      rw [e0] at *; have HFR := Lib.hid (find_rev M L k x hx); obtain ⟨fn, tmps, assign, body, hy, hRo⟩ := hY k x wr hx hI; unfold ruleV at hy; clear hcs
      gi_wp2
      refine hRo.mono ?_
      rintro e W3 (⟨hm, rfl, hJ3⟩ | ⟨hm, rfl, hX3⟩)
      · gi_wp2
        refine ⟨⟨k, by omega, rfl, hJ3, by rw [HF.out, HFR.out, if_neg (by rw [hm]; simp)]⟩, ?_⟩
        try simp only []
        omega
      gi_wp2
      refine bodyPost_ret (results_none rfl _ _ _) rfl ?_
      exact ⟨⟨_, rfl⟩, .inr ⟨x, by rw [HF.out, HFR.out, if_pos hm], hX3⟩⟩
def lastOut (M : RuleP → Bool) (r : Nat) (x : RuleP) (W : World) : Exit → Act → World → Prop
  | .normal, _, W' => M x = false ∧ Off [] W W'
  | .ret, _, W' => M x = true ∧ Off [r] W W' ∧ Blk W' r 4 #[.bool x.ignore]
  | .exit _, _, _ => False
  | .goto _, _, _ => False
  | .panic _, _, _ => False
  | .outgrown, _, _ => False
set_option maxHeartbeats 4000000 in
theorem wpIn_back {M : RuleP → Bool} {L : List RuleP} {c : Nat} {q : Option Addr} {t1 t2 : Tmp} {gop : Operand} {assign body : Code} {Q : Exit → Act → World → Prop} {a : Act} {w0 w1 : World} {g r : Nat}
    (hgo : a.eval gop = .func (.func 351) #[] #[.pointer (some ⟨g, 0, none⟩)])
    (hr : r < g) (hr0 : w0.heap.size ≤ r) (B0 : Blk w1 g 27 #[.slice q L.length c]) (BR : Blk w1 r 4 #[.bool false])
    (ho : Off [] w0 w1) (hLc : L.length ≤ c) (hbig : c ≤ 9223372036854775807) (hRL : RlB w0 q L)
    (a₁ : Nat → RuleP → Nat → Act)
    (hassign : ∀ (l i : Nat) (x : RuleP) (W : World) (K : Act → World → Prop), (∀ W1, Off [] W W1 → Blk W1 W.heap.size 119 #[.bool x.ignore, .string x.pattern] → K (a₁ i x W.heap.size) W1) →
      assign.wpIn (Fence.wide.inRound l) 1 Tryz.prog (Exit.then K (fun _ _ _ => False)) { tmps := ((#[t1, t2] : Array Tmp).zip #[Value.int .i64 i, ruleV x]).foldl (fun t (p, v) => t.setIfInBounds p v) a.tmps, defers := [] } W)
    (hbody : ∀ (l i : Nat) (x : RuleP) (h : Nat) (W : World), x ∈ L → w0.heap.size ≤ h → r < h → Off [] w0 W → Blk W r 4 #[.bool false] → Blk W h 119 #[.bool x.ignore, .string x.pattern] → body.wpIn (Fence.wide.inRound l) 1 Tryz.prog (lastOut M r x W) (a₁ i x h) W)
    (hdone : L.reverse.find? M = none → ∀ (D : Nat) (W : World), w0.heap.size ≤ D → Off [] w0 W → Blk W r 4 #[.bool false] → W.heap[D]? = some (.deferred (some [])) → Q .normal { a with defers := { target := .collected D, args := #[] } :: a.defers } W)
    (hstop : ∀ x, L.reverse.find? M = some x → ∀ (D : Nat) (W : World), w0.heap.size ≤ D → Off [] w0 W → Blk W r 4 #[.bool x.ignore] → W.heap[D]? = some (.deferred (some [])) → Code.ret.wpIn Fence.wide 3 Tryz.prog Q { a with defers := { target := .collected D, args := #[] } :: a.defers } W) :
    (Code.rangeFunc gop #[t1, t2] assign body).wpIn Fence.wide 3 Tryz.prog Q a w1 := by
  refine wpIn_rangeFunc ?_
  intro fn hfn
  have hro : Fence.wide.round = none := rfl
  rw [hro]; obtain ⟨rc, hrc⟩ : ∃ rc : LoopState → Option Code → Loop, rc = fun st pe => { state := st, pending := pe, fn, tmps := a.tmps, params := #[t1, t2], assign, body, defers := w1.heap.size } := ⟨_, rfl⟩
  obtain ⟨W1, hW1⟩ : ∃ W1, (w1.alloc (.deferred (some []))).alloc (.loop (rc .ready none)) = W1 := ⟨_, rfl⟩
  have hL1 : W1.heap[w1.heap.size + 1]? = some (.loop (rc .ready none)) := by
    rw [← hW1]; have := World.alloc_heap_new (w1.alloc (.deferred (some []))) (.loop (rc .ready none)); rwa [World.size_alloc] at this
  have hK1 : W1.heap[w1.heap.size]? = some (.deferred (some [])) := by
    rw [← hW1]; exact (Below.heap_alloc _ _ _ (by simp)).trans (World.alloc_heap_new w1 _)
  have hI1 : BwInv (w1.heap.size + 1) w1.heap.size g r rc w0 q L.length c W1 := by
    refine ⟨hL1, hK1, ?_, ?_, ?_⟩ <;> rw [← hW1]
    · exact (B0.alloc _).alloc _
    · exact (BR.alloc _).alloc _
    exact (ho.alloc _).alloc _
  have hle : w0.heap.size ≤ w1.heap.size := ho.size
  have hgl := B0.lt; have hrl := BR.lt; refine ⟨w1.heap.size + 1, [{ target := .collected w1.heap.size, args := #[] }], W1, { target := .fn (.func 351) #[.pointer (some ⟨g, 0, none⟩)], args := #[.func (.yield (w1.heap.size + 1)) #[] #[]] }, W1, 351,
    #[.func (.yield (w1.heap.size + 1)) #[] #[]] ++ #[.pointer (some ⟨g, 0, none⟩)], W1, ?_, ?_, ?_, ?_, fun _ => by omega, ?_⟩
  · rw [← hW1, hrc]; exact run_enterLoop_outer _ _ _ _ _
  · simp only [resolve, hgo]
    simp [go_sem]
  · intro f' _; trivial
  · have eg : ∀ args w, (callFunc 351 args).run Tryz.prog w = .ok (.enter 351 args) w := enters_of Tryz.func351 (by kernel_rfl) rfl
    simp [invoke, go_sem, eg]
  refine (back_in 1 (w1.heap.size + 1) w1.heap.size g r rc w0 M L q c hLc hbig hRL ?_ W1 hI1).mono ?_
  · -- one round
    intro i x W0 hx hI0
    have hlt0 : w1.heap.size + 1 < W0.heap.size := (Array.getElem?_eq_some_iff.1 hI0.rdy).1
    have hy := run_yield (P := Tryz.prog) (args := #[.int .i64 i, ruleV x]) hI0.rdy (by rw [hrc]; rfl); rw [hrc] at hy; have hy2 : (Instr.yield (w1.heap.size + 1) #[.int .i64 i, ruleV x]).run Tryz.prog W0 = .ok (.round (w1.heap.size + 1) fn (((#[t1, t2] : Array Tmp).zip #[Value.int .i64 i, ruleV x]).foldl (fun t (p, v) => t.setIfInBounds p v) a.tmps) assign body) W0 := hy
    refine ⟨fn, _, assign, body, hy2, roundIn_of_wpIn hfn ?_⟩
    refine hassign _ i x W0 (fun a₁ w₁ => ∃ w₂, (Instr.beginRound (w1.heap.size + 1)).run Tryz.prog w₁ = .ok () w₂ ∧ body.wpIn (Fence.wide.inRound (w1.heap.size + 1)) 1 Tryz.prog (roundPost Tryz.prog (w1.heap.size + 1) _) a₁ w₂) ?_
    intro W hoa hba
    have hlt : w1.heap.size + 1 < W.heap.size := Nat.lt_of_lt_of_le hlt0 hoa.size
    have kp : ∀ k o, W0.heap[k]? = some o → W.heap[k]? = some o := fun k o hk => (hoa.block k (Array.getElem?_eq_some_iff.1 hk).1 (by simp)).trans hk
    have hI : BwInv (w1.heap.size + 1) w1.heap.size g r rc w0 q L.length c W := ⟨kp _ _ hI0.rdy, kp _ _ hI0.dfr, kp _ _ hI0.s, kp _ _ hI0.res, hI0.off.trans_nil hoa⟩
    refine ⟨_, run_beginRound hI.rdy (by rw [hrc]), ?_⟩
    obtain ⟨W2, hW2⟩ : ∃ W2, W.putObj (w1.heap.size + 1) (.loop { rc .ready none with state := .busy }) = W2 := ⟨_, rfl⟩
    rw [hW2]; have oth : ∀ k, k ≠ w1.heap.size + 1 → W2.heap[k]? = W.heap[k]? := fun k hk => by rw [← hW2]; exact World.putObj_heap_other hk
    have hl2 : W2.heap[w1.heap.size + 1]? = some (.loop { rc .ready none with state := .busy }) := by rw [← hW2]; exact World.putObj_heap_same hlt
    have hz2 : W2.heap.size = W.heap.size := by rw [← hW2]; simp [World.putObj]
    have ho2 : Off [] w0 W2 := hI.off.grown (by rw [← hW2]; exact grownBy_putObj' W _ _) (fun k e => by cases e; exact .inl (by omega))
    have hr2 : Blk W2 r 4 #[.bool false] := (oth r (by omega)).trans hI.res
    have hb2 : Blk W2 W0.heap.size 119 #[.bool x.ignore, .string x.pattern] := (oth _ (by omega)).trans hba
    refine wpIn_mono (hbody _ i x _ W2 (List.mem_of_getElem? hx) (by omega) (by omega) ho2 hr2 hb2) ?_
    rintro e a3 W3 hp
    cases e with
    | normal =>
      obtain ⟨hok, h3⟩ := hp; have keep : ∀ k o, W2.heap[k]? = some o → W3.heap[k]? = some o := fun k o hk => (h3.block k (Array.getElem?_eq_some_iff.1 hk).1 (by simp)).trans hk
      have hl3 := keep _ _ hl2; have he := run_endRound (P := Tryz.prog) none hl3; refine ⟨_, _, he, .inl ⟨hok, rfl, ?_⟩⟩; have ot4 : ∀ k, k ≠ w1.heap.size + 1 → ∀ o, W.heap[k]? = some o → (W3.putObj (w1.heap.size + 1) (.loop { { rc .ready none with state := .busy } with state := if (none : Option Code).isNone then .ready else .done, pending := none })).heap[k]? = some o :=
        fun k hk o hko => (World.putObj_heap_other hk).trans (keep _ _ ((oth k hk).trans hko))
      refine ⟨?_, ot4 _ (by omega) _ hI.dfr, ot4 _ (by omega) _ hI.s, ot4 _ (by omega) _ hI.res, ?_⟩
      · rw [World.putObj_heap_same (Array.getElem?_eq_some_iff.1 hl3).1, hrc]; rfl
      exact (ho2.trans_nil h3).grown (grownBy_putObj' _ _ _) (fun k e => by cases e; exact .inl (by omega))
    | ret =>
      obtain ⟨hok, h3, hb3⟩ := hp; have keep : ∀ k o, k ≠ r → W2.heap[k]? = some o → W3.heap[k]? = some o := fun k o hkr hk => (h3.block k (Array.getElem?_eq_some_iff.1 hk).1 (by simpa using hkr)).trans hk
      have hl3 := keep _ _ (by omega) hl2; have he := run_endRound (P := Tryz.prog) (some .ret) hl3; refine ⟨_, _, he, .inr ⟨hok, rfl, ?_⟩⟩
      have ot4 : ∀ k, k ≠ w1.heap.size + 1 → k ≠ r → ∀ o, W.heap[k]? = some o → (W3.putObj (w1.heap.size + 1) (.loop { { rc .ready none with state := .busy } with state := if (some Code.ret).isNone then .ready else .done, pending := some .ret })).heap[k]? = some o :=
        fun k hk hkr o hko => (World.putObj_heap_other hk).trans (keep _ _ hkr ((oth k hk).trans hko))
      refine ⟨?_, ot4 _ (by omega) (by omega) _ hI.dfr, (World.putObj_heap_other (by omega)).trans hb3, ?_⟩
      · rw [World.putObj_heap_same (Array.getElem?_eq_some_iff.1 hl3).1, hrc]; rfl
      exact (ho2.trans h3 (by simp; omega)).grown (grownBy_putObj' _ _ _) (fun k e => by cases e; exact .inl (by omega))
    | exit id => exact hp.elim
    | goto t => exact hp.elim
    | panic ch => exact hp.elim
    | outgrown => exact hp.elim
  rintro e W2 ⟨⟨v, rfl⟩, (⟨hall, hI⟩ | ⟨x, hall, hX⟩)⟩
  · have hend := run_endLoop (P := Tryz.prog) hI.rdy (by rw [hrc]; simp)
    refine ⟨_, _, hend, ?_⟩
    rw [hrc]; exact hdone hall w1.heap.size _ hle (hI.off.grown (grownBy_putObj' _ _ _) (fun k e => by cases e; exact .inl (by omega))) ((World.putObj_heap_other (by omega)).trans hI.res) ((World.putObj_heap_other (by omega)).trans hI.dfr)
  have hend := run_endLoop (P := Tryz.prog) hX.don (by rw [hrc]; simp); refine ⟨_, _, hend, ?_⟩; rw [hrc]; exact hstop x hall w1.heap.size _ hle (hX.off.grown (grownBy_putObj' _ _ _) (fun k e => by cases e; exact .inl (by omega))) ((World.putObj_heap_other (by omega)).trans hX.res) ((World.putObj_heap_other (by omega)).trans hX.dfr)
theorem lastV_find (L : List RuleP) (p : Str) : lastV L p = (match L.reverse.find? (fun r => globV r.pattern.data.toList p) with | some r => r.ignore | none => false) := rfl
set_option maxRecDepth 100000 in
set_option maxHeartbeats 4000000 in
theorem last_any (L : List RuleP) (q : Option Addr) (c : Nat) (path : ByteArray) (w : World) (hLc : L.length ≤ c) (hbig : c ≤ 9223372036854775807) (hRL : RlB w q L)
    (hsz : ∀ x ∈ L, x.pattern.size ≤ 1048576) (hp : path.size ≤ 1000000) (hT : Tabs w) :
    Calls Tryz.prog 225 #[.slice q L.length c, .string path] w fun e w' => e = .returned (.bool (lastV L (str path))) ∧ Off [] w w' := by
  have hk := Lib.hid (lastV_find L (str path)); refine callsIn_wide (n := 3).1 ?_; refine callsIn_of_wp_marks Tryz.func225 rfl trivial ?_ rfl; simp only [Tryz.ntmps225, List.size_toArray, List.length_cons, List.length_nil, Nat.reduceAdd, Nat.reduceSub, Array.replicate_succ, Array.replicate_zero, List.push_toArray, List.append_toArray, List.nil_append, List.cons_append]
  generalize hn : L.length = n at *
  have HN := Lib.hid hn; clear hn
  gi_wp2
  refine ⟨trivial, (callsIn_wide.2 (back_any q n c _)).mono ?_⟩
  rintro e w1 ⟨g, rfl, hg, B0, ho⟩; have BR : Blk w1 (w.heap.size + 1) 4 #[.bool false] := (Blk.new1 w _ 4 #[.bool false]).off ho (by simp)
  have BP0 := Blk.new w 9 #[.string path]; have how0 := (Off.refl [] w).alloc (.cells #[.string path] 9); obtain ⟨w0, hw0⟩ : ∃ w0, w.alloc (.cells #[.string path] 9) = w0 := ⟨_, rfl⟩
  rw [hw0] at ho BP0 how0; have hs0 : w0.heap.size = w.heap.size + 1 := by rw [← hw0]; simp
  have how : Off [] w0 w1 := ((Off.refl _ _).alloc _).trans_nil ho
  have hgw : w.heap.size + 1 < g := by rw [hw0] at hg; simp only [World.size_alloc] at hg; omega
  have hRL0 := hRL.off how0; have hT0 := hT.off how0; clear ho hg hw0
  gi_wp2
  refine wpIn_back (M := fun r => globV r.pattern.data.toList (str path)) (L := L) (c := c) (q := q) (g := g) (r := w.heap.size + 1) (w0 := w0) rfl hgw (by omega) (by rw [HN.out]; exact B0) BR how (by rw [HN.out]; exact hLc) hbig hRL0
    (fun i x h => { tmps := #[.slice q n c, .string path, undef, .pointer (some ⟨w.heap.size, 0, none⟩), .pointer (some ⟨w.heap.size + 1, 0, none⟩), undef, .pointer (some ⟨h, 0, none⟩), .slice q n c, .func (.func 351) #[] #[.pointer (some ⟨g, 0, none⟩)], .int .i64 i, .agg #[.bool x.ignore, .string x.pattern], undef, undef, undef, undef, undef, undef], defers := [] }) ?assign ?body ?done ?stop
  case assign =>
    intro l i x W K hK
    unfold ruleV
    gi_wp2
    exact hK _ ((Off.refl _ _).alloc _) (Blk.new _ _ _)
  case body =>
    intro l i x h W hx hh hrh ho hb hB
    have hcp := (BP0.off ho (by simp)).cell 0; have hc0 := hB.cell 0; have hc1 := hB.cell 1; have HM := Lib.hid (fun W' (hT : Tabs W') => gmatch_any x.pattern path W' (hsz x hx) hp hT)
    cases hv : globV (str x.pattern) (str path)
    · have HV := Lib.hid hv
      clear hv
      gi_wp2
      refine ⟨trivial, (CallsIn.inRound l (callsIn_wide.2 (HM.out W (hT0.off ho)))).mono ?_⟩
      rintro e w2 ⟨rfl, ho2⟩; rw [HV.out]
      gi_wp2
      exact ⟨HV.out, ho2⟩
    have HV := Lib.hid hv; clear hv
    gi_wp2
    refine ⟨trivial, (CallsIn.inRound l (callsIn_wide.2 (HM.out W (hT0.off ho)))).mono ?_⟩
    rintro e w2 ⟨rfl, ho2⟩; rw [HV.out]; have hb2 := hb.off ho2 (by simp); have hcell2 := hb2.cell 0; have hfr2 := hb2.frozen 0; have hd0 := (hB.off ho2 (by simp)).cell 0; clear hcp hc0 hc1
    gi_wp2
    exact ⟨HV.out, (ho2.mono (fun _ _ h => by cases h)).setCell (.inr (by simp)) _, by simpa using hb2.set_ 0 (.bool x.ignore)⟩
  case done =>
    intro hall D W hD ho hb hK
    have hcell := hb.cell 0; have hfr := hb.frozen 0; have hbl := hb.lt
    gi_wp2
    have hne : D ≠ w.heap.size + 1 := by
      rintro rfl; unfold Blk at hb; rw [hb] at hK; simp at hK
    have hb' : Blk (W.setCell ⟨w.heap.size + 1, 0, none⟩ (.bool false)) (w.heap.size + 1) 4 #[.bool false] := by simpa using hb.set_ 0 (.bool false)
    have hK' := (Below.heap_setCell W ⟨w.heap.size + 1, 0, none⟩ (.bool false) D hne).trans hK; have hb2 : Blk ((W.setCell ⟨w.heap.size + 1, 0, none⟩ (.bool false)).putObj D (.deferred none)) (w.heap.size + 1) 4 #[.bool false] := (World.putObj_heap_other (Ne.symm hne)).trans hb'
    have hcl := hb2.cell 0; refine ⟨by simp, .inl ⟨_, _, rfl, run_takeDeferred hK', .bool false, by simp [results, Tryz.f225, go_sem, hcl], ?_⟩⟩; exact ⟨by rw [hk.out, hall], how0.trans_nil ((ho.setCell (.inl (show w0.heap.size ≤ w.heap.size + 1 by omega)) _).grown (grownBy_putObj' _ _ _) (fun k e => by cases e; exact .inl hD))⟩
  case stop =>
    intro x hall D W hD ho hb hK
    have hcell := hb.cell 0
    gi_wp2
    have hne : D ≠ w.heap.size + 1 := by
      rintro rfl; unfold Blk at hb; rw [hb] at hK; simp at hK
    have hb2 : Blk (W.putObj D (.deferred none)) (w.heap.size + 1) 4 #[.bool x.ignore] := (World.putObj_heap_other (Ne.symm hne)).trans hb
    have hcl := hb2.cell 0; refine ⟨by simp, .inl ⟨_, _, rfl, run_takeDeferred hK, .bool x.ignore, by simp [results, Tryz.f225, go_sem, hcl], ?_⟩⟩; exact ⟨by rw [hk.out, hall], how0.trans_nil (ho.grown (grownBy_putObj' _ _ _) (fun k e => by cases e; exact .inl hD))⟩
end
section
open Go.RowKit Go.Op Go.Maps
def ownB : ByteArray := ⟨#[46, 104, 97, 119, 115, 101, 114]⟩
def seeV (rs : List RuleP) (p : ByteArray) : Bool := okPath (str p) && !within (str p) (str ownB) && !ignoredV rs (str p)
def belD (dir x : ByteArray) : ByteArray := if dir = ⟨#[]⟩ then x else dir ++ (⟨#[47]⟩ : ByteArray) ++ x
structure Wk where
  tree : List Node
  stamps : List (Int × Int × Int)
  blocked : List ByteArray
def Wk.add (a : Wk) (n : Node) (s : Int × Int × Int) : Wk := ⟨a.tree ++ [n], a.stamps ++ [s], a.blocked⟩
def goW (see : ByteArray → Bool) (dn : PDisk → ByteArray → Wk → Int × Wk × PDisk) : List ByteArray → PDisk → Wk → Int × Wk × PDisk
  | [], D, a => (0, a, D)
  | p :: ps, D, a =>
    if see p then
      match D.edited.get p with
      | ((er, nd, s), D1) =>
        if er ≠ 0 then (er, a, D1)
        else if nd.kind = 2 then
          match dn D1 p (a.add nd s) with
          | (e2, a2, D2) => if e2 ≠ 0 then (e2, a2, D2) else goW see dn ps D2 a2
        else goW see dn ps D1 (a.add nd s)
    else goW see dn ps D a
def hidN (see : ByteArray → Bool) (ps : List ByteArray) : Bool := ps.any fun p => decide (p ≠ ownB) && !see p
def Wk.block (a : Wk) (b : Bool) (dir : ByteArray) : Wk := if b then ⟨a.tree, a.stamps, a.blocked ++ [dir]⟩ else a
def walkW (see : ByteArray → Bool) : Nat → PDisk → ByteArray → Wk → Int × Wk × PDisk
  | 0, D, _, a => (0, a, D)
  | f + 1, D, dir, a =>
    match D.edited.namesC dir with
    | ((l, e), D1) =>
      if e ≠ 0 then (e, a, D1)
      else goW see (walkW see f) (l.map (belD dir)) D1 (a.block (hidN see (l.map (belD dir))) dir)
theorem sorted_ext : ∀ {x y : List Node}, Sorted x → Sorted y → (∀ n, n ∈ x ↔ n ∈ y) → x = y
  | [], [], _, _, _ => rfl
  | [], b :: y, _, _, h => by have := (h b).2 (by simp); cases this
  | a :: x, [], _, _, h => by have := (h a).1 (by simp); cases this
  | a :: x, b :: y, hx, hy, h => by
    unfold Sorted at hx hy; rw [List.pairwise_cons] at hx hy; have irr : ∀ p : Str, ¬ order p p < 0 := fun p h => by rw [order_self] at h; omega
    have hab : a = b := by
      rcases List.mem_cons.1 ((h a).1 (by simp)) with e | ha
      · exact e
      rcases List.mem_cons.1 ((h b).2 (by simp)) with e | hb
      · exact e.symm
      exact absurd (order_trans (hx.1 b hb) (hy.1 a ha)) (irr _)
    subst hab
    congr 1
    refine sorted_ext hx.2 hy.2 fun n => ?_
    constructor
    · intro hn
      rcases List.mem_cons.1 ((h n).1 (List.mem_cons_of_mem _ hn)) with e | h1
      · subst e; exact absurd (hx.1 n hn) (irr _)
      exact h1
    intro hn
    rcases List.mem_cons.1 ((h n).2 (List.mem_cons_of_mem _ hn)) with e | h1
    · subst e; exact absurd (hy.1 n hn) (irr _)
    exact h1
def inD (s q : Str) : Bool := if q = [] then true else within s q && decide (s ≠ q)
def kidsN (t : List Node) (q : Str) : List Node := t.filter fun n => decide (parent n.p = q)
def subN (t : List Node) (q : Str) : List Node := t.filter fun n => inD n.p q
theorem within_ok {s q : Str} (h : within s q = true) : okPath s = true := by unfold within at h; simp only [Bool.and_eq_true] at h; exact h.1
theorem withinQ_pre {s q : Str} (hs : okPath s = true) (hq : okPath q = true) : within s q = true ↔ parts q <+: parts s := by
  unfold within; rw [hs, hq, decide_eq_false (okPath_ne hq)]; simp [List.isPrefixOf_iff_prefix]
theorem withinQ_trans {s q r : Str} (h : within s q = true) (k : within q r = true) (hr : okPath r = true) : within s r = true := by
  have hq := within_ok k; have hs := within_ok h; rw [withinQ_pre hs hr]; exact ((withinQ_pre hq hr).1 k).trans ((withinQ_pre hs hq).1 h)
theorem inD_parts {s q : Str} (hs : okPath s = true) (hq : q = [] ∨ okPath q = true) : inD s q = true ↔ ∃ r, r ≠ [] ∧ parts s = (if q = [] then [] else parts q) ++ r := by
  unfold inD
  by_cases h0 : q = []
  · rw [if_pos h0, if_pos h0]
    exact ⟨fun _ => ⟨parts s, parts_ne s, rfl⟩, fun _ => rfl⟩
  have hqk := hq.resolve_left h0; rw [if_neg h0, if_neg h0, Bool.and_eq_true, decide_eq_true_eq, withinQ_pre hs hqk]
  constructor
  · rintro ⟨⟨r, hr⟩, hne⟩
    refine ⟨r, fun e => ?_, hr.symm⟩
    subst e; rw [List.append_nil] at hr; exact hne (parts_inj hr.symm)
  rintro ⟨r, hr, he⟩; refine ⟨⟨r, he.symm⟩, fun e => ?_⟩; rw [e] at he; have := congrArg List.length he; rw [List.length_append] at this; exact hr (List.length_eq_zero_iff.1 (by omega))
theorem parent_drop {s : Str} (hs : okPath s = true) : (if parent s = [] then [] else parts (parent s)) = (parts s).dropLast := by
  by_cases h : parent s = []
  · rw [if_pos h]
    have h1 := path_whole hs; rw [if_pos h] at h1; have h2 := parts_split hs; have h3 : (parts s).dropLast = [] := by
      have hb : 47 ∉ s := by
        rw [h1]; exact parts_mem s (base s) (by rw [h2]; simp)
      rw [parts_clean s hb]; rfl
    rw [h3]
  rw [if_neg h, parent_parts hs h]
theorem inD_kid {t : List Node} (ht : okTree t = true) {q : Str} (hq : q = [] ∨ okPath q = true) {n : Node} (hn : n ∈ t) : inD n.p q = true ↔ ∃ c ∈ kidsN t q, n = c ∨ inD n.p c.p = true := by
  have hnk := okTree_path ht hn
  constructor
  · generalize hl : (parts n.p).length = k
    intro h
    induction k using Nat.strongRecOn generalizing n with
    | ind k ih =>
      by_cases e : parent n.p = q
      · exact ⟨n, List.mem_filter.2 ⟨hn, decide_eq_true e⟩, .inl rfl⟩
      obtain ⟨r, hr, he⟩ := (inD_parts hnk hq).1 h; have hd := parent_drop hnk; rw [he, List.dropLast_append_of_ne_nil hr] at hd
      rcases isDir_iff.1 (parent_dir ht hn) with h0 | ⟨d, hd1, hd2, hd3⟩
      · rw [if_pos h0] at hd
        have h1 := (List.append_eq_nil_iff.1 hd.symm).1
        by_cases h2 : q = []
        · exact absurd (h0.trans h2.symm) e
        rw [if_neg h2] at h1; exact absurd h1 (parts_ne q)
      have hdk := okTree_path ht hd1; have hpe : parent n.p ≠ [] := by rw [← hd2]; exact okPath_ne hdk
      rw [if_neg hpe, ← hd2] at hd; have hr2 : r.dropLast ≠ [] := fun e2 => by
        rw [e2, List.append_nil] at hd
        by_cases h2 : q = []
        · rw [if_pos h2] at hd; exact parts_ne _ hd
        rw [if_neg h2] at hd; exact e (hd2 ▸ parts_inj hd)
      obtain ⟨c, hc, h3⟩ := ih (parts d.p).length (by
        rw [← hl, he, hd, List.length_append, List.length_append, List.length_dropLast]; have := List.length_pos_iff.2 hr; omega) hd1 hdk rfl ((inD_parts hdk hq).2 ⟨_, hr2, hd⟩)
      have hck := okTree_path ht (List.mem_filter.1 hc).1; refine ⟨c, hc, .inr ?_⟩; have hnd : parts n.p = parts d.p ++ [base n.p] := by
        rw [hd2, parent_parts hnk hpe]; exact parts_split hnk
      rw [inD_parts hnk (.inr hck), if_neg (okPath_ne hck)]
      rcases h3 with rfl | h3
      · exact ⟨[base n.p], by simp, hnd⟩
      obtain ⟨r3, hr3, he3⟩ := (inD_parts hdk (.inr hck)).1 h3; rw [if_neg (okPath_ne hck)] at he3; exact ⟨r3 ++ [base n.p], by simp, by rw [hnd, he3, List.append_assoc]⟩
  rintro ⟨c, hc, h⟩; obtain ⟨hc1, hc2⟩ := List.mem_filter.1 hc; rw [decide_eq_true_eq] at hc2; have hck := okTree_path ht hc1; have hcp : parts c.p = (if q = [] then [] else parts q) ++ [base c.p] := by
    have h1 := parts_split hck; rw [← parent_drop hck, hc2] at h1; exact h1
  rw [inD_parts hnk hq]
  rcases h with rfl | h
  · exact ⟨_, by simp, hcp⟩
  obtain ⟨r, hr, he⟩ := (inD_parts hnk (.inr hck)).1 h; rw [if_neg (okPath_ne hck), hcp] at he; exact ⟨[base c.p] ++ r, by simp, by rw [he, List.append_assoc]⟩
theorem inD_file {t : List Node} (ht : okTree t = true) {c : Node} (hc : c ∈ t) (hk : c.kind ≠ 2) : subN t c.p = [] := by
  have hck := okTree_path ht hc; rw [subN, List.filter_eq_nil_iff]
  intro n hn h
  obtain ⟨d, hd, -⟩ := (inD_kid ht (.inr hck) hn).1 h; obtain ⟨hd1, hd2⟩ := List.mem_filter.1 hd; rw [decide_eq_true_eq] at hd2
  rcases isDir_iff.1 (parent_dir ht hd1) with h0 | ⟨m, hm1, hm2, hm3⟩
  · rw [hd2] at h0; exact okPath_ne hck h0
  have := (okTree_sorted ht).unique hm1 hc (hm2.trans hd2); subst this; exact hk hm3
theorem order_parts {a b : Str} {l x y : List Str} (ha : parts a = l ++ x) (hb : parts b = l ++ y) : order a b = cmpN x y := by unfold order; rw [ha, hb, cmpN_append]
theorem cmpN_head {x y : Str} {r s : List Str} (h : Lib.compareBytes x y < 0) : cmpN (x :: r) (y :: s) < 0 := by
  unfold cmpN; rw [if_neg (by omega)]; exact h
theorem sub_kids {t : List Node} (ht : okTree t = true) {q : Str} (hq : q = [] ∨ okPath q = true) : subN t q = (kidsN t q).flatMap fun c => c :: subN t c.p := by
  have hs := okTree_sorted ht; refine sorted_ext (filter_sorted hs _) ?_ fun n => ?_
  · unfold Sorted
    rw [List.pairwise_flatMap]; refine ⟨fun c hc => ?_, ?_⟩
    · have hc1 := (List.mem_filter.1 hc).1
      have hck := okTree_path ht hc1; rw [List.pairwise_cons]; refine ⟨fun n hn => ?_, filter_sorted hs _⟩; obtain ⟨hn1, hn2⟩ := List.mem_filter.1 hn; obtain ⟨r, hr, he⟩ := (inD_parts (okTree_path ht hn1) (.inr hck)).1 hn2; rw [if_neg (okPath_ne hck)] at he; unfold order; rw [he]; exact cmpN_own _ _ hr
    have hk : Sorted (kidsN t q) := filter_sorted hs _
    refine List.Pairwise.imp_of_mem ?_ hk
    intro c d hc hd hcd a ha b hb
    obtain ⟨hc1, hc2⟩ := List.mem_filter.1 hc; obtain ⟨hd1, hd2⟩ := List.mem_filter.1 hd; rw [decide_eq_true_eq] at hc2 hd2; have hck := okTree_path ht hc1; have hdk := okTree_path ht hd1; have cut : ∀ (c : Node), c ∈ t → parent c.p = q → ∀ a, a ∈ c :: subN t c.p → ∃ r, parts a.p = (if q = [] then [] else parts q) ++ (base c.p :: r) := by
      intro c hc1 hc2 a ha
      have hck := okTree_path ht hc1; have hcp : parts c.p = (if q = [] then [] else parts q) ++ [base c.p] := by
        have h1 := parts_split hck; rw [← parent_drop hck, hc2] at h1; exact h1
      rcases List.mem_cons.1 ha with rfl | ha
      · exact ⟨[], hcp⟩
      obtain ⟨ha1, ha2⟩ := List.mem_filter.1 ha; obtain ⟨r, hr, he⟩ := (inD_parts (okTree_path ht ha1) (.inr hck)).1 ha2; rw [if_neg (okPath_ne hck), hcp, List.append_assoc] at he; exact ⟨r, he⟩
    obtain ⟨r1, e1⟩ := cut c hc1 hc2 a ha; obtain ⟨r2, e2⟩ := cut d hd1 hd2 b hb; rw [order_parts e1 e2]; exact cmpN_head (by rw [← base_order hck hdk (hc2.trans hd2.symm)]; exact hcd)
  rw [List.mem_flatMap]
  constructor
  · intro h
    obtain ⟨hn, h2⟩ := List.mem_filter.1 h; obtain ⟨c, hc, h3⟩ := (inD_kid ht hq hn).1 h2; exact ⟨c, hc, by
      rcases h3 with rfl | h3
      · exact List.mem_cons_self ..
      exact List.mem_cons_of_mem _ (List.mem_filter.2 ⟨hn, h3⟩)⟩
  rintro ⟨c, hc, h⟩; have hn : n ∈ t := by
    rcases List.mem_cons.1 h with rfl | h
    · exact (List.mem_filter.1 hc).1
    exact (List.mem_filter.1 h).1
  refine List.mem_filter.2 ⟨hn, (inD_kid ht hq hn).2 ⟨c, hc, ?_⟩⟩
  rcases List.mem_cons.1 h with rfl | h
  · exact .inl rfl
  exact .inr (List.mem_filter.1 h).2
structure SameQ (D E : PDisk) : Prop where
  names : E.names = D.names
  inos : E.inos = D.inos
  off : E.off = false
  fates : E.fates = []
  edits : E.edits = []
theorem SameQ.refl {D : PDisk} (h : Calm D) (he : D.edits = []) : SameQ D D := ⟨rfl, rfl, h.on, h.fates, he⟩
theorem SameQ.edited {D E : PDisk} (h : SameQ D E) : E.edited = E := by
  rw [edited_eq h.off, h.edits]; unfold PDisk.editTo; rw [h.edits]
  rfl
theorem SameQ.calm {D E : PDisk} (h : SameQ D E) : Calm E := ⟨h.off, h.fates⟩
theorem SameQ.tick {D E : PDisk} (h : SameQ D E) (c p q : ByteArray) : SameQ D (E.tick c p q) := ⟨h.names, h.inos, h.off, h.fates, h.edits⟩
theorem SameQ.inode {D E : PDisk} (h : SameQ D E) (i : Nat) : E.inode i = D.inode i := by unfold PDisk.inode; rw [h.inos]
theorem SameQ.at_ {D E : PDisk} (h : SameQ D E) (p : ByteArray) : E.at_ p = D.at_ p := by unfold PDisk.at_; rw [h.names, h.inode]
theorem SameQ.get_ {D E : PDisk} (h : SameQ D E) (p : ByteArray) : E.get_ p = D.get_ p := by
  unfold PDisk.get_ PDisk.gone; rw [h.at_, h.names]
theorem SameQ.tree {D E : PDisk} (h : SameQ D E) : E.tree = D.tree := by
  unfold PDisk.tree; rw [h.names]
  congr 1
  funext x
  rw [h.inode]
theorem SameQ.dir {D E : PDisk} (h : SameQ D E) (p : ByteArray) : E.dir p = D.dir p := by unfold PDisk.dir; rw [h.at_]
theorem SameQ.namesOn {D E : PDisk} (h : SameQ D E) (p : ByteArray) : E.namesOn p = D.namesOn p := by
  unfold PDisk.namesOn PDisk.gone; rw [h.at_, h.dir, h.tree]
def stampD (D : PDisk) (n : Node) : Int × Int × Int := (lookN D.names n.path, n.data.size, match D.at_ n.path with | some m => m.time | none => 0)
theorem get_node {D : PDisk} {n : Nat} (h : Fine D n) {x : Node} (hx : x ∈ D.tree) : D.get_ x.path = (0, x, stampD D x) ∧ (D.at_ x.path).isNone = false ∧ (D.dir x.path = decide (x.kind = 2)) := by
  obtain ⟨y, hy, m, hm, rfl⟩ := node_tree h.ok h.good.names hx; have hl := lookN_mem h.good.names hy; have ha : D.at_ y.1 = some m := by unfold PDisk.at_; rw [hl]; exact hm
  have hk := (h.good.tree.names y hy).1; have hne : y.1 ≠ ⟨#[]⟩ := fun e => by rw [e] at hk; exact okPath_ne hk rfl
  refine ⟨?_, by show (D.at_ y.1).isNone = false; rw [ha]; rfl, ?_⟩
  · unfold PDisk.get_ stampD
    dsimp only
    rw [if_neg hne, ha, hl]; simp only [PDisk.no, PDisk.gone, ha, firstE, hk]; simp
  unfold PDisk.dir; dsimp only; rw [ha, decide_eq_false hne, Bool.false_or]
def foundIn (see : ByteArray → Bool) (t : List Node) (q : Str) : List Node := (subN t q).filter fun n => see n.path
def hidIn (see : ByteArray → Bool) (t : List Node) (d : ByteArray) : Bool := t.any fun n => decide (parent n.p = str d) && (decide (n.path ≠ ownB) && !see n.path)
def blockIn (see : ByteArray → Bool) (t : List Node) (d : ByteArray) : List ByteArray := (d :: ((foundIn see t (str d)).filter fun n => decide (n.kind = 2)).map Node.path).filter (hidIn see t)
structure SeeOk (see : ByteArray → Bool) : Prop where
  path : ∀ p, see p = true → okPath (str p) = true
  up : ∀ p q, see p = true → okPath (str q) = true → within (str p) (str q) = true → see q = true
theorem found_kids {see : ByteArray → Bool} (hS : SeeOk see) {t : List Node} (ht : okTree t = true) {q : Str} (hq : q = [] ∨ okPath q = true) :
    foundIn see t q = (kidsN t q).flatMap fun c => if see c.path then c :: foundIn see t c.p else [] := by
  unfold foundIn; rw [sub_kids ht hq, List.filter_flatMap]; have : ∀ c ∈ kidsN t q, (List.filter (fun n => see n.path) (c :: subN t c.p)) = if see c.path then c :: (subN t c.p).filter (fun n => see n.path) else [] := by
    intro c hc
    have hck := okTree_path ht (List.mem_filter.1 hc).1
    cases hs : see c.path
    · rw [if_neg (by simp), List.filter_eq_nil_iff]
      intro n hn h
      rcases List.mem_cons.1 hn with rfl | hn
      · rw [hs] at h; cases h
      obtain ⟨hn1, hn2⟩ := List.mem_filter.1 hn; have hw : within n.p c.p = true := by
        unfold inD at hn2; rw [if_neg (okPath_ne hck), Bool.and_eq_true] at hn2; exact hn2.1
      have := hS.up n.path c.path h hck hw; rw [hs] at this
      cases this
    rw [if_pos rfl, List.filter_cons_of_pos (by simpa using hs)]
  rw [List.flatMap_def, List.flatMap_def, List.map_congr_left this]
theorem kid_path {t : List Node} (ht : okTree t = true) {d : ByteArray} {c : Node} (hc : c ∈ kidsN t (str d)) : belD d (bs (base c.p)) = c.path := by
  obtain ⟨hc1, hc2⟩ := List.mem_filter.1 hc; rw [decide_eq_true_eq] at hc2; have h := path_whole (okTree_path ht hc1); unfold belD
  apply str_inj
  show _ = c.p
  by_cases h0 : d = ⟨#[]⟩
  · rw [if_pos h0, str_bs]
    rw [if_pos (by rw [hc2, h0]; rfl)] at h; exact h.symm
  rw [if_neg h0, str_slash, str_bs]; rw [if_neg (fun e => h0 (str_inj (by rw [← hc2, e]; rfl))), hc2] at h; exact h.symm
theorem hid_kids {see : ByteArray → Bool} {t : List Node} (d : ByteArray) : hidN see ((kidsN t (str d)).map Node.path) = hidIn see t d := by
  unfold hidN hidIn kidsN; rw [List.any_map, List.any_filter]
  rfl
def Wk.plus (a : Wk) (D : PDisk) (l : List Node) (b : List ByteArray) : Wk := ⟨a.tree ++ l, a.stamps ++ l.map (stampD D), a.blocked ++ b⟩
theorem Wk.plus_plus (a : Wk) (D : PDisk) (l m : List Node) (b c : List ByteArray) : (a.plus D l b).plus D m c = a.plus D (l ++ m) (b ++ c) := by
  unfold Wk.plus; simp
theorem Wk.add_eq (a : Wk) (D : PDisk) (n : Node) : a.add n (stampD D n) = a.plus D [n] [] := by unfold Wk.add Wk.plus; simp
theorem Wk.block_eq (a : Wk) (D : PDisk) (b : Bool) (d : ByteArray) : a.block b d = a.plus D [] (if b then [d] else []) := by
  unfold Wk.block Wk.plus; cases b <;> simp
def kidsB (see : ByteArray → Bool) (t : List Node) (cs : List Node) : List ByteArray := cs.flatMap fun c => if see c.path ∧ c.kind = 2 then blockIn see t c.path else []
theorem block_kids {see : ByteArray → Bool} (hS : SeeOk see) {t : List Node} (ht : okTree t = true) {d : ByteArray} (hq : d = ⟨#[]⟩ ∨ okPath (str d) = true) :
    blockIn see t d = (if hidIn see t d then [d] else []) ++ kidsB see t (kidsN t (str d)) := by
  have hq' : str d = [] ∨ okPath (str d) = true := by
    rcases hq with rfl | h
    · exact .inl rfl
    exact .inr h
  unfold blockIn kidsB; rw [List.filter_cons, found_kids hS ht hq', List.filter_flatMap, List.map_flatMap, List.filter_flatMap]; have : ∀ c ∈ kidsN t (str d), List.filter (hidIn see t) (List.map Node.path (List.filter (fun n => decide (n.kind = 2)) (if see c.path then c :: foundIn see t c.p else []))) = if see c.path ∧ c.kind = 2 then blockIn see t c.path else [] := by
    intro c hc
    have hc1 := (List.mem_filter.1 hc).1
    cases hs : see c.path
    · rw [if_neg (by simp), if_neg (by simp)]; rfl
    rw [if_pos rfl]
    by_cases hk : c.kind = 2
    · rw [if_pos ⟨rfl, hk⟩, List.filter_cons_of_pos (by simpa using hk)]
      rfl
    rw [if_neg (fun e => hk e.2), List.filter_cons_of_neg (by simpa using hk)]; have : foundIn see t c.p = [] := by unfold foundIn; rw [inD_file ht hc1 hk]; rfl
    rw [this]; rfl
  rw [List.flatMap_def, List.flatMap_def, List.map_congr_left this]
  split <;> rfl
def deep (d : Str) : Nat := if d = [] then 0 else (parts d).length
theorem walk_quiet {see : ByteArray → Bool} (hS : SeeOk see) {D : PDisk} {n : Nat} (hF : Fine D n) (ht : okTree D.tree = true) :
    ∀ (f : Nat) (E : PDisk) (d : ByteArray) (a : Wk), SameQ D E → (d = ⟨#[]⟩ ∨ ∃ m ∈ D.tree, m.path = d ∧ m.kind = 2) → 17 ≤ f + deep (str d) →
      ∃ E', walkW see f E d a = (0, a.plus D (foundIn see D.tree (str d)) (blockIn see D.tree d), E') ∧ SameQ D E'
  | 0, E, d, a, hE, hd, hf => by
    exfalso
    rcases hd with rfl | ⟨m, hm, rfl, -⟩
    · unfold deep at hf
      rw [if_pos (by rfl)] at hf; omega
    have := ok_depth (okTree_path ht hm); unfold deep at hf; have h2 := okPath_ne (okTree_path ht hm); unfold Node.p at this h2; rw [if_neg h2] at hf; omega
  | f + 1, E, d, a, hE, hd, hf => by
    have hdk : d = ⟨#[]⟩ ∨ okPath (str d) = true := by
      rcases hd with h | ⟨m, hm, rfl, -⟩
      · exact .inl h
      exact .inr (okTree_path ht hm)
    have hq' : str d = [] ∨ okPath (str d) = true := by
      rcases hdk with rfl | h
      · exact .inl rfl
      exact .inr h
    have hdir : isDir D.tree (str d) = true := by
      rcases hd with rfl | ⟨m, hm, rfl, hk⟩
      · rfl
      exact isDir_iff.2 (.inr ⟨m, hm, rfl, hk⟩)
    have hN : E.edited.namesC d = ((namesOf D.tree (str d), 0), E.tick ⟨#[78, 97, 109, 101, 115]⟩ d ⟨#[]⟩) := by
      rw [hE.edited, hE.calm.names, hE.namesOn]
      congr 1
      unfold PDisk.namesOn; have hD : D.dir d = true := by
        rcases hd with rfl | ⟨m, hm, rfl, hk⟩
        · rfl
        rw [(get_node hF hm).2.2, hk]; rfl
      have he : (if d = ⟨#[]⟩ then (0 : Int) else firstE [PDisk.no d, D.gone d]) = 0 := by
        rcases hd with rfl | ⟨m, hm, rfl, hk⟩
        · rfl
        split
        · rfl
        have h1 := okTree_path ht hm; unfold Node.p at h1; simp only [PDisk.no, PDisk.gone, firstE, h1, (get_node hF hm).2.1]
        rfl
      dsimp only
      rw [he, hD]; simp only [ne_eq, not_true, if_false, if_true]; rw [namesR_eq ht]
    have hps : (namesOf D.tree (str d)).map (belD d) = (kidsN D.tree (str d)).map Node.path := by
      unfold namesOf; rw [List.map_map]; exact List.map_congr_left fun c hc => kid_path ht hc
    unfold walkW; rw [hN]; dsimp only; rw [if_neg (by simp), hps, hid_kids]; rw [Wk.block_eq (D := D)]; have key : ∀ (cs : List Node) (E : PDisk) (a : Wk), (∀ c ∈ cs, c ∈ kidsN D.tree (str d)) → SameQ D E →
        ∃ E', goW see (walkW see f) (cs.map Node.path) E a = (0, a.plus D (cs.flatMap fun c => if see c.path then c :: foundIn see D.tree c.p else []) (kidsB see D.tree cs), E') ∧ SameQ D E' := by
      intro cs
      induction cs with
      | nil =>
        intro E a _ hE
        refine ⟨E, ?_, hE⟩
        simp [goW, kidsB, Wk.plus]
      | cons c cs ih =>
        intro E a hcs hE
        have hc := hcs c (List.mem_cons_self ..); obtain ⟨hc1, hc2⟩ := List.mem_filter.1 hc; rw [decide_eq_true_eq] at hc2; have hck := okTree_path ht hc1; rw [List.map_cons, List.flatMap_cons]; unfold goW; unfold kidsB; rw [List.flatMap_cons]
        cases hs : see c.path
        · obtain ⟨E', h1, h2⟩ := ih E a (fun x hx => hcs x (List.mem_cons_of_mem _ hx)) hE
          refine ⟨E', ?_, h2⟩
          simp only [Bool.false_eq_true, if_false, false_and, List.nil_append]
          exact h1
        have hG : E.edited.get c.path = ((0, c, stampD D c), E.tick ⟨#[71, 101, 116]⟩ c.path ⟨#[]⟩) := by
          rw [hE.edited, hE.calm.get, hE.get_, (get_node hF hc1).1]
        rw [hG]; simp only [if_true, true_and]; rw [if_neg (by simp), Wk.add_eq]; have hT := hE.tick ⟨#[71, 101, 116]⟩ c.path ⟨#[]⟩
        by_cases hk : c.kind = 2
        · have hdp : 17 ≤ f + deep (str c.path) := by
            have h1 : parts c.p = (if str d = [] then [] else parts (str d)) ++ [base c.p] := by
              have h1 := parts_split hck; rw [← parent_drop hck, hc2] at h1; exact h1
            have h2 := congrArg List.length h1; rw [List.length_append, List.length_singleton] at h2; unfold deep at hf ⊢; have h3 : str c.path ≠ [] := okPath_ne hck
            rw [if_neg h3]; have h4 : (parts (str c.path)).length = (if str d = [] then [] else parts (str d)).length + 1 := h2
            rw [h4]
            split at hf
            · rename_i h5; rw [if_pos h5]; simp; omega
            rename_i h5; rw [if_neg h5]; omega
          obtain ⟨E1, h1, h2⟩ := walk_quiet hS hF ht f _ c.path (a.plus D [c] []) hT (.inr ⟨c, hc1, rfl, hk⟩) hdp; rw [if_pos hk, h1]; dsimp only; rw [if_neg (by simp)]; obtain ⟨E2, h3, h4⟩ := ih E1 ((a.plus D [c] []).plus D (foundIn see D.tree (str c.path)) (blockIn see D.tree c.path)) (fun x hx => hcs x (List.mem_cons_of_mem _ hx)) h2; refine ⟨E2, ?_, h4⟩
          rw [h3, Wk.plus_plus, Wk.plus_plus, if_pos hk]; simp only [List.nil_append, List.cons_append]
          rfl
        rw [if_neg hk]; obtain ⟨E2, h3, h4⟩ := ih _ (a.plus D [c] []) (fun x hx => hcs x (List.mem_cons_of_mem _ hx)) hT; refine ⟨E2, ?_, h4⟩; have hf0 : foundIn see D.tree c.p = [] := by unfold foundIn; rw [inD_file ht hc1 hk]; rfl
        rw [h3, Wk.plus_plus, if_neg hk, hf0]; simp only [List.nil_append, List.cons_append]
        rfl
    obtain ⟨E', h1, h2⟩ := key (kidsN D.tree (str d)) _ (a.plus D [] (if hidIn see D.tree d = true then [d] else [])) (fun c hc => hc) (hE.tick _ _ _); refine ⟨E', ?_, h2⟩; rw [h1, Wk.plus_plus, List.nil_append, ← found_kids hS ht hq', ← block_kids hS ht hdk]
theorem see_ok (rs : List RuleP) : SeeOk (seeV rs) where
  path := fun p h => by
    unfold seeV at h; simp only [Bool.and_eq_true] at h; exact h.1.1
  up := fun p q h hq hw => by
    unfold seeV at h ⊢; simp only [Bool.and_eq_true, Bool.not_eq_true'] at h ⊢; obtain ⟨⟨h1, h2⟩, h3⟩ := h; refine ⟨⟨hq, ?_⟩, ?_⟩
    · cases hx : within (str q) (str ownB)
      · rfl
      have := withinQ_trans hw hx (by decide); rw [h2] at this
      cases this
    unfold ignoredV at h3 ⊢; rw [h1, Bool.true_and] at h3; rw [hq, Bool.true_and]; rw [List.any_eq_false] at h3 ⊢
    intro x hx
    refine h3 x ?_
    rw [ups_mem 17 _ _ hq (by have := ok_depth hq; omega)] at hx; rw [ups_mem 17 _ _ h1 (by have := ok_depth h1; omega)]; exact ⟨hx.1, hx.2.trans ((withinQ_pre h1 hq).1 hw)⟩
end
section
open Go.RowKit Go.Op
theorem par_lt {p : Str} (h : okPath p = true) : (parent p).length < p.length := by
  have hpe : p ≠ [] := fun e => by subst e; revert h; decide
  have := path_whole h
  by_cases hp : parent p = []
  · rw [hp]
    cases p with
    | nil => exact absurd rfl hpe
    | cons a l => simp
  rw [if_neg hp] at this; rw [congrArg List.length this]; simp
theorem ups_step {p : Str} (h : okPath p = true) (k : Nat) (hk : (parts p).length ≤ k) :
    ∃ j, k = j + 1 ∧ upsF k p = p :: upsF j (parent p) ∧ (parent p = [] ∨ okPath (parent p) = true) ∧ (parent p ≠ [] → (parts (parent p)).length ≤ j) := by
  have hpe : p ≠ [] := fun e => by subst e; revert h; decide
  match k, hk with
  | 0, hk => have := List.length_pos_iff.2 (parts_ne p); omega
  | j + 1, hk =>
    refine ⟨j, rfl, ?_, ?_, ?_⟩
    · conv => lhs; unfold upsF
      rw [if_neg hpe]
    · by_cases hp : parent p = []
      · exact .inl hp
      exact .inr (parent_ok h hp)
    intro hp
    rw [parent_parts h hp, List.length_dropLast]; omega
theorem ups_nil (k : Nat) : upsF k [] = [] := by
  cases k with
  | zero => rfl
  | succ n => unfold upsF; rw [if_pos rfl]
theorem ok_size {p : Str} (h : okPath p = true) : p.length ≤ 400 := by
  unfold okPath at h; simp only [Bool.and_eq_true, decide_eq_true_eq] at h; exact h.1.1
set_option maxRecDepth 100000 in
theorem ignored_any (L : List RuleP) (q : Option Addr) (c : Nat) (path : ByteArray) (w : World) (hLc : L.length ≤ c) (hbig : c ≤ 9223372036854775807) (hRL : RlB w q L)
    (hsz : ∀ x ∈ L, x.pattern.size ≤ 1048576) (hT : Tabs w) :
    Calls Tryz.prog 150 #[.slice q L.length c, .string path] w fun e w' => e = .returned (.bool (ignoredV L (str path))) ∧ Off [] w w' := by
  have HLA := Lib.hid (fun (p : ByteArray) (W : World) (hp : p.size ≤ 1000000) (ho : Off [] w W) => last_any L q c p W hLc hbig (hRL.off ho) hsz hp (hT.off ho)); generalize hn : L.length = n at *
  have HP := Lib.hid (path_any path w hT); have HPA := Lib.hid (fun (p : ByteArray) (W : World) (hp : p.size ≤ 1000000) (ho : Off [] w W) => parent_any p W hp (hT.off ho)); clear hn hRL hsz hT hLc hbig
  by_cases hok : okPath (str path) = true
  · have HOK := Lib.hid hok
    have HV := Lib.hid (show ignoredV L (str path) = (upsF 17 (str path)).any (lastV L) by unfold ignoredV; rw [hok, Bool.true_and]); clear hok
    go_enter Tryz.func150, Tryz.ntmps150
    go_wp2_with fail
    refine HP.out.mono ?_
    rintro e w1 ⟨rfl, ho⟩; rw [HOK.out]; have HO := Lib.hid ho; clear ho
    go_wp2
    go_loopw [5] (fun v wr => ∃ (p : ByteArray) (k : Nat), v = .string p ∧ (str p = [] ∨ okPath (str p) = true) ∧ (str p ≠ [] → (parts (str p)).length ≤ k) ∧ (upsF 17 (str path)).any (lastV L) = (upsF k (str p)).any (lastV L) ∧ Off [] w wr) (fun v wr => match v with | .string p => p.size | _ => 0)
    case atStart => exact ⟨path, 17, rfl, .inr HOK.out, fun _ => by have := ok_depth HOK.out; omega, rfl, HO.out⟩
    case round =>
      obtain ⟨p, k, rfl, hp, hk, hu, ho⟩ := hrel; have HU := Lib.hid hu; have HO2 := Lib.hid ho; clear hu ho HO
      by_cases hpe : str p = []
      · have he : p = ⟨#[]⟩ := str_inj hpe
        subst he; clear hk hp hpe; have g : (⟨#[]⟩ : ByteArray).toList = [] := by rw [toList_str]; rfl
        have g' : (⟨#[]⟩ : ByteArray).toList.isEmpty = true := by rw [g]; rfl
        go_wp2
        go_ret
        exact ⟨by rw [HV.out, HU.out, show str ⟨#[]⟩ = [] from rfl, ups_nil]; rfl, HO2.out⟩
      have hpo : okPath (str p) = true := hp.resolve_left hpe
      have hp4 : p.size ≤ 400 := by rw [← str_size]; exact ok_size hpo
      obtain ⟨j, rfl, hus, hpp, hpk⟩ := ups_step hpo k (hk hpe); have g : ¬ p.toList = [] := fun e => hpe (by rw [← toList_str]; exact e)
      have g' : p.toList.isEmpty = false := by simpa using g
      have HX := Lib.hid (And.intro hpo (And.intro hus (And.intro hpp hpk))); clear hk hp hus hpp hpk hpe
      cases hv : lastV L (str p)
      · have HL := Lib.hid hv
        clear hv
        go_wp2_with fail
        refine (HLA.out p _ (by omega) HO2.out).mono ?_
        rintro e w3 ⟨rfl, ho3⟩; rw [HL.out]; have HO3 := Lib.hid (HO2.out.trans_nil ho3); clear ho3
        go_wp2_with fail
        refine (HPA.out p _ (by omega) HO3.out).mono ?_
        rintro e w4 ⟨rfl, ho4⟩
        go_wp2
        have hus := HX.out.2.1; refine ⟨⟨bs (parent (str p)), j, rfl, by rw [str_bs]; exact HX.out.2.2.1, by rw [str_bs]; exact HX.out.2.2.2, by rw [HU.out, hus, List.any_cons, HL.out, Bool.false_or, str_bs], HO3.out.trans_nil ho4⟩, ?_⟩; have := par_lt HX.out.1; rw [str_size] at this; simp [bs_size]; exact this
      have HL := Lib.hid hv; clear hv
      go_wp2_with fail
      refine (HLA.out p _ (by omega) HO2.out).mono ?_
      rintro e w3 ⟨rfl, ho3⟩; rw [HL.out]
      go_wp2
      go_ret
      have hus := HX.out.2.1; exact ⟨by rw [HV.out, HU.out, hus, List.any_cons, HL.out, Bool.true_or]; rfl, HO2.out.trans_nil ho3⟩
  have HOK := Lib.hid hok; have HV := Lib.hid (show ignoredV L (str path) = false by unfold ignoredV; rw [show okPath (str path) = false by simpa using hok]; rfl); clear hok
  go_enter Tryz.func150, Tryz.ntmps150
  go_wp2_with fail
  refine HP.out.mono ?_
  rintro e w1 ⟨rfl, ho⟩; rw [show okPath (str path) = false by simpa using HOK.out]
  go_wp2
  go_ret
  exact ⟨by rw [HV.out]; rfl, ho⟩
end
section
open Go.RowKit Go.Op
def RlOk (w : World) (L : List RuleP) (q : Option Addr) (c : Nat) : Prop := L.length ≤ c ∧ c ≤ 9223372036854775807 ∧ RlB w q L ∧ ∀ x ∈ L, x.pattern.size ≤ 1048576
theorem RlOk.off {w w' : World} {L q c} (h : RlOk w L q c) (ho : Off [] w w') : RlOk w' L q c := ⟨h.1, h.2.1, h.2.2.1.off ho, h.2.2.2⟩
set_option maxRecDepth 100000 in
theorem seen_any (L : List RuleP) (q : Option Addr) (c : Nat) (path : ByteArray) (w : World) (hR : RlOk w L q c) (hT : Tabs w) :
    Calls Tryz.prog 70 #[.slice q L.length c, .string path] w fun e w' => e = .returned (.bool (seeV L path)) ∧ Off [] w w' := by
  have HI := Lib.hid (fun (W : World) (ho : Off [] w W) => ignored_any L q c path W hR.1 hR.2.1 (hR.2.2.1.off ho) hR.2.2.2 (hT.off ho)); generalize hn : L.length = n at *
  have HP := Lib.hid (path_any path w hT); have HW := Lib.hid (fun (W : World) (ho : Off [] w W) => nwithin_any path ownB W (hT.off ho)); have HV := Lib.hid (show seeV L path = (okPath (str path) && !within (str path) (str ownB) && !ignoredV L (str path)) from rfl); clear hn hR hT; generalize seeV L path = sv at *
  cases h1 : okPath (str path)
  · have H1 := Lib.hid h1
    clear h1
    go_enter Tryz.func70, Tryz.ntmps70
    go_wp2_with fail
    refine HP.out.mono ?_
    rintro e w1 ⟨rfl, ho⟩; rw [H1.out]
    go_wp2_with fail
    go_ret
    exact ⟨by rw [HV.out, H1.out]; rfl, ho⟩
  have H1 := Lib.hid h1; clear h1
  cases h2 : within (str path) (str ownB)
  · have H2 := Lib.hid h2
    clear h2
    go_enter Tryz.func70, Tryz.ntmps70
    go_wp2_with fail
    refine HP.out.mono ?_
    rintro e w1 ⟨rfl, ho⟩; rw [H1.out]; have HO := Lib.hid ho; clear ho
    go_wp2_with fail
    refine (HW.out _ HO.out).mono ?_
    rintro e w2 ⟨rfl, ho2⟩; rw [H2.out]; have HO2 := Lib.hid (HO.out.trans_nil ho2); clear ho2
    go_wp2_with fail
    refine (HI.out _ HO2.out).mono ?_
    rintro e w3 ⟨rfl, ho3⟩
    go_wp2_with fail
    go_ret
    exact ⟨by rw [HV.out, H1.out, H2.out]; rfl, HO2.out.trans_nil ho3⟩
  have H2 := Lib.hid h2; clear h2
  go_enter Tryz.func70, Tryz.ntmps70
  go_wp2_with fail
  refine HP.out.mono ?_
  rintro e w1 ⟨rfl, ho⟩; rw [H1.out]; have HO := Lib.hid ho; clear ho
  go_wp2_with fail
  refine (HW.out _ HO.out).mono ?_
  rintro e w2 ⟨rfl, ho2⟩; rw [H2.out]
  go_wp2_with fail
  go_ret
  exact ⟨by rw [HV.out, H1.out, H2.out]; rfl, HO.out.trans_nil ho2⟩
end
section
open Go.RowKit Go.Op Go.Maps
def stCells (l : List (Int × Int × Int)) : List Value := l.flatMap fun s => [.int .i64 s.1, .int .i64 s.2.1, .int .i64 s.2.2]
def wkB (wp : Nat) (tv sv bv : Value) : List Nat := wp :: (tv.ownBlock.toList ++ (sv.ownBlock.toList ++ bv.ownBlock.toList))
structure SWf (w0 W : World) (d wp : Nat) (rv : Value) (D : PDisk) (n : Nat) (a : Wk) (K : List Nat) (tv sv bv : Value) : Prop where
  run : RunE w0 W d D n (wkB wp tv sv bv ++ K)
  blk : Blk W wp 138 #[rv, .pointer (some ⟨d, 0, none⟩), tv, sv, bv]
  tree : W.ownsRow 0 105 4 tv a.tree.length (cellsOf a.tree)
  stamps : W.ownsRow 0 117 3 sv a.stamps.length (stCells a.stamps)
  blocked : W.ownsRow 0 9 1 bv a.blocked.length (a.blocked.map Value.string)
  apart : ∀ b ∈ K, b ∉ wkB wp tv sv bv
  tabs : Tabs w0
  since : ∀ b ∈ wkB wp tv sv bv, w0.heap.size ≤ b
def SW (w0 W : World) (d wp : Nat) (rv : Value) (D : PDisk) (n : Nat) (a : Wk) (K : List Nat) : Prop := ∃ tv sv bv, SWf w0 W d wp rv D n a K tv sv bv
section
variable {w0 w w' : World} {d wp n : Nat} {rv tv sv bv : Value} {D : PDisk} {a : Wk} {K : List Nat}
theorem SWf.off (h : SWf w0 w d wp rv D n a K tv sv bv) (ho : Off [] w w') : SWf w0 w' d wp rv D n a K tv sv bv :=
  ⟨h.run.off ho, h.blk.off ho (by simp), own_offk (k := []) h.tree ho (by simp), own_offk (k := []) h.stamps ho (by simp), own_offk (k := []) h.blocked ho (by simp), h.apart, h.tabs, h.since⟩
theorem SW.off (h : SW w0 w d wp rv D n a K) (ho : Off [] w w') : SW w0 w' d wp rv D n a K := by
  obtain ⟨tv, sv, bv, h⟩ := h; exact ⟨tv, sv, bv, h.off ho⟩
theorem wkB_wp : wp ∈ wkB wp tv sv bv := List.mem_cons_self ..
theorem wkB_t : ∀ b ∈ tv.ownBlock.toList, b ∈ wkB wp tv sv bv := fun _ hb => List.mem_cons_of_mem _ (List.mem_append_left _ hb)
theorem wkB_s : ∀ b ∈ sv.ownBlock.toList, b ∈ wkB wp tv sv bv := fun _ hb => List.mem_cons_of_mem _ (List.mem_append_right _ (List.mem_append_left _ hb))
theorem wkB_b : ∀ b ∈ bv.ownBlock.toList, b ∈ wkB wp tv sv bv := fun _ hb => List.mem_cons_of_mem _ (List.mem_append_right _ (List.mem_append_right _ hb))
theorem SWf.next {D' : PDisk} {n' : Nat} (h : SWf w0 w d wp rv D n a K tv sv bv) (hr : RunE w0 w' d D' n' (wkB wp tv sv bv ++ K)) (hk : Kept (wkB wp tv sv bv ++ K) w w') : SWf w0 w' d wp rv D' n' a K tv sv bv :=
  ⟨hr, hk.blk h.blk (List.mem_append_left _ wkB_wp), hk.row h.tree (fun b hb => List.mem_append_left _ (wkB_t b hb)), hk.row h.stamps (fun b hb => List.mem_append_left _ (wkB_s b hb)), hk.row h.blocked (fun b hb => List.mem_append_left _ (wkB_b b hb)), h.apart, h.tabs, h.since⟩
theorem Kept.right {k K : List Nat} (h : Kept (k ++ K) w w') : Kept K w w' := fun b hb => h b (List.mem_append_right _ hb)
theorem Kept.of_off {K : List Nat} (ho : Off [] w w') (hK : ∀ b ∈ K, b < w.heap.size) : Kept K w w' := fun b hb => ho.block b (hK b hb) (by simp)
theorem SWf.lt (h : SWf w0 w d wp rv D n a K tv sv bv) : ∀ b ∈ K, b < w.heap.size := fun b hb => by
  obtain ⟨G, -, -, -, -, h5⟩ := h.run; exact (h5 b (List.mem_append_right _ hb)).1
theorem SWf.more {K' : List Nat} (h : SWf w0 w d wp rv D n a K tv sv bv) (ho : Off [] w w') (hK : ∀ b ∈ K', w.heap.size ≤ b ∧ b < w'.heap.size) : SWf w0 w' d wp rv D n a (K' ++ K) tv sv bv := by
  have h1 := h.off ho; refine ⟨(h.run.more ho hK).drop fun b hb => ?_, h1.blk, h1.tree, h1.stamps, h1.blocked, fun b hb hm => ?_, h.tabs, h.since⟩
  · rcases List.mem_append.1 hb with hb | hb
    · exact List.mem_append_right _ (List.mem_append_left _ hb)
    rcases List.mem_append.1 hb with hb | hb
    · exact List.mem_append_left _ hb
    exact List.mem_append_right _ (List.mem_append_right _ hb)
  rcases List.mem_append.1 hb with hb | hb
  · obtain ⟨G, -, -, -, -, h5⟩ := h.run
    have := (h5 b (List.mem_append_left _ hm)).1; have := (hK b hb).1; omega
  exact h.apart b hb hm
theorem SWf.drop {K' : List Nat} (h : SWf w0 w d wp rv D n a K tv sv bv) (hK : ∀ b ∈ K', b ∈ K) : SWf w0 w d wp rv D n a K' tv sv bv :=
  ⟨h.run.drop fun b hb => (List.mem_append.1 hb).elim (fun h => List.mem_append_left _ h) (fun h => List.mem_append_right _ (hK b h)), h.blk, h.tree, h.stamps, h.blocked, fun b hb => h.apart b (hK b hb), h.tabs, h.since⟩
theorem RunE.upd {l k k' : List Nat} (h : RunE w0 w d D n k) (hT : Tabs w0) (ho : Off l w w') (hl : ∀ b ∈ l, b ∈ k ∧ w0.heap.size ≤ b) (hk : ∀ b ∈ k', b ∈ k ∨ (w.heap.size ≤ b ∧ b < w'.heap.size)) : RunE w0 w' d D n k' := by
  obtain ⟨G, h1, h2, h3, h4, h5⟩ := h; have hoo : Off [] w0 w' := h2.trans ho (fun x hx hm => by have := (hl x hm).2; omega)
  have hd : d ∉ l := fun hm => (h5 d (hl d hm).1).2 (List.mem_cons_self ..)
  have hp : ∀ b ∈ G.parts, b ∉ l := fun b hb hm => (h5 b (hl b hm).1).2 (List.mem_cons_of_mem _ hb)
  refine ⟨G, ⟨h1.m.off ho hd hp, h1.sb, h1.ok, TabsX.of hT hoo h3 h4⟩, hoo, h3, h4, fun b hb => ?_⟩
  rcases hk b hb with hb | hb
  · exact ⟨Nat.lt_of_lt_of_le (h5 b hb).1 ho.size, (h5 b hb).2⟩
  refine ⟨hb.2, fun hm => ?_⟩
  rcases List.mem_cons.1 hm with rfl | hm
  · have := h1.m.blk.lt; omega
  have := h1.m.parts.lt hm; omega
theorem SWf.push_tree {w1 w7 : World} {gg cap : Nat} {nd : Node} (h : SWf w0 w d wp rv D n a K tv sv bv) (ho : Off [] w w1) (hg : w1.grownBy w7 tv.ownBlock) (hat : tv.ownBlock = some gg ∨ w.heap.size ≤ gg) (hlt : gg < w7.heap.size)
    (hown : w7.ownsRow 0 105 4 (.slice (some ⟨gg, 0, none⟩) (a.tree.length + 1) cap) (a.tree.length + 1) (cellsOf a.tree ++ [.string nd.path, .int .i64 nd.kind, .string nd.data, .int .i64 nd.mode])) :
    SWf w0 (w7.setCell ⟨wp, 2, none⟩ (.slice (some ⟨gg, 0, none⟩) (a.tree.length + 1) cap)) d wp rv D n ⟨a.tree ++ [nd], a.stamps, a.blocked⟩ K (.slice (some ⟨gg, 0, none⟩) (a.tree.length + 1) cap) sv bv ∧ Kept K w (w7.setCell ⟨wp, 2, none⟩ (.slice (some ⟨gg, 0, none⟩) (a.tree.length + 1) cap)) := by
  have hb : Off tv.ownBlock.toList w w7 := (ho.mono (fun _ _ h => by simp at h)).grown hg (fun k hk => .inr (by rw [hk]; simp))
  have hwv : wp ∉ tv.ownBlock.toList := fun hm => by
    obtain ⟨cs, hB⟩ := own_blks h.tree wp hm; exact h.blk.ne_ hB (by decide) rfl
  have hB7 := h.blk.off hb hwv; have ho2 : Off (wp :: tv.ownBlock.toList) w (w7.setCell ⟨wp, 2, none⟩ (.slice (some ⟨gg, 0, none⟩) (a.tree.length + 1) cap)) := (hb.mono (fun _ _ h => List.mem_cons_of_mem _ h)).setCell (.inr (by simp)) _
  have hgw : ¬ gg = wp := fun e => by
    rcases hat with e2 | e2
    · exact hwv (by rw [e2, e]; simp)
    have := h.blk.lt; omega
  have hz : (w7.setCell ⟨wp, 2, none⟩ (.slice (some ⟨gg, 0, none⟩) (a.tree.length + 1) cap)).heap.size = w7.heap.size := by simp [World.setCell]
  have hin : ∀ b ∈ wkB wp (.slice (some ⟨gg, 0, none⟩) (a.tree.length + 1) cap) sv bv, b ∈ wkB wp tv sv bv ∨ (w.heap.size ≤ b ∧ b < w7.heap.size) := fun b hb => by
    unfold wkB at hb ⊢; simp only [List.mem_cons, List.mem_append] at hb ⊢
    rcases hb with hb | hb | hb | hb
    · exact .inl (.inl hb)
    · simp [Value.ownBlock] at hb
      subst hb
      rcases hat with e2 | e2
      · exact .inl (.inr (.inl (by rw [e2]; simp)))
      exact .inr ⟨e2, hlt⟩
    · exact .inl (.inr (.inr (.inl hb)))
    exact .inl (.inr (.inr (.inr hb)))
  refine ⟨⟨?_, ?_, ?_, ?_, ?_, fun b hb hm => ?_, h.tabs, fun b hb => ?_⟩, fun b hb => ?_⟩
  · refine h.run.upd (l := wp :: tv.ownBlock.toList) h.tabs ho2 (fun b hb => ?_) (fun b hb => ?_)
    · have : b ∈ wkB wp tv sv bv := by
        rcases List.mem_cons.1 hb with rfl | hb
        · exact wkB_wp
        exact wkB_t b hb
      exact ⟨List.mem_append_left _ this, h.since b this⟩
    rcases List.mem_append.1 hb with hb | hb
    · rcases hin b hb with h1 | h1
      · exact .inl (List.mem_append_left _ h1)
      exact .inr (by rw [hz]; exact h1)
    exact .inl (List.mem_append_right _ hb)
  · simpa using hB7.set_ 2 (.slice (some ⟨gg, 0, none⟩) (a.tree.length + 1) cap)
  · have := own_offk (k := [wp]) hown ((Off.refl [wp] w7).setCell (p := ⟨wp, 2, none⟩) (.inr (by simp)) (.slice (some ⟨gg, 0, none⟩) (a.tree.length + 1) cap)) (by simpa [Value.ownBlock] using hgw)
    rw [show cellsOf (a.tree ++ [nd]) = cellsOf a.tree ++ [.string nd.path, .int .i64 nd.kind, .string nd.data, .int .i64 nd.mode] from by unfold cellsOf; rw [List.flatMap_append]; rfl, List.length_append]; exact this
  · refine own_offk h.stamps ho2 fun b hb hm => ?_
    obtain ⟨cs, hBb⟩ := own_blks h.stamps b hb
    rcases List.mem_cons.1 hm with rfl | hm
    · exact h.blk.ne_ hBb (by decide) rfl
    obtain ⟨cs2, hBc⟩ := own_blks h.tree b hm; exact hBb.ne_ hBc (by decide) rfl
  · refine own_offk h.blocked ho2 fun b hb hm => ?_
    obtain ⟨cs, hBb⟩ := own_blks h.blocked b hb
    rcases List.mem_cons.1 hm with rfl | hm
    · exact h.blk.ne_ hBb (by decide) rfl
    obtain ⟨cs2, hBc⟩ := own_blks h.tree b hm; exact hBb.ne_ hBc (by decide) rfl
  · rcases hin b hm with h1 | h1
    · exact h.apart b hb h1
    have := h.lt b hb; omega
  · rcases hin b hb with h1 | h1
    · exact h.since b h1
    have := h.run.since.size; omega
  refine ho2.block b (h.lt b hb) fun hm => h.apart b hb ?_
  rcases List.mem_cons.1 hm with rfl | hm
  · exact wkB_wp
  exact wkB_t b hm
theorem SWf.push_stamps {w1 w7 : World} {gg cap : Nat} {nd : Int × Int × Int} (h : SWf w0 w d wp rv D n a K tv sv bv) (ho : Off [] w w1) (hg : w1.grownBy w7 sv.ownBlock) (hat : sv.ownBlock = some gg ∨ w.heap.size ≤ gg) (hlt : gg < w7.heap.size)
    (hown : w7.ownsRow 0 117 3 (.slice (some ⟨gg, 0, none⟩) (a.stamps.length + 1) cap) (a.stamps.length + 1) (stCells a.stamps ++ [.int .i64 nd.1, .int .i64 nd.2.1, .int .i64 nd.2.2])) :
    SWf w0 (w7.setCell ⟨wp, 3, none⟩ (.slice (some ⟨gg, 0, none⟩) (a.stamps.length + 1) cap)) d wp rv D n ⟨a.tree, a.stamps ++ [nd], a.blocked⟩ K tv (.slice (some ⟨gg, 0, none⟩) (a.stamps.length + 1) cap) bv ∧ Kept K w (w7.setCell ⟨wp, 3, none⟩ (.slice (some ⟨gg, 0, none⟩) (a.stamps.length + 1) cap)) := by
  have hb : Off sv.ownBlock.toList w w7 := (ho.mono (fun _ _ h => by simp at h)).grown hg (fun k hk => .inr (by rw [hk]; simp))
  have hwv : wp ∉ sv.ownBlock.toList := fun hm => by
    obtain ⟨cs, hB⟩ := own_blks h.stamps wp hm; exact h.blk.ne_ hB (by decide) rfl
  have hB7 := h.blk.off hb hwv; have ho2 : Off (wp :: sv.ownBlock.toList) w (w7.setCell ⟨wp, 3, none⟩ (.slice (some ⟨gg, 0, none⟩) (a.stamps.length + 1) cap)) := (hb.mono (fun _ _ h => List.mem_cons_of_mem _ h)).setCell (.inr (by simp)) _
  have hgw : ¬ gg = wp := fun e => by
    rcases hat with e2 | e2
    · exact hwv (by rw [e2, e]; simp)
    have := h.blk.lt; omega
  have hz : (w7.setCell ⟨wp, 3, none⟩ (.slice (some ⟨gg, 0, none⟩) (a.stamps.length + 1) cap)).heap.size = w7.heap.size := by simp [World.setCell]
  have hin : ∀ b ∈ wkB wp tv (.slice (some ⟨gg, 0, none⟩) (a.stamps.length + 1) cap) bv, b ∈ wkB wp tv sv bv ∨ (w.heap.size ≤ b ∧ b < w7.heap.size) := fun b hb => by
    unfold wkB at hb ⊢; simp only [List.mem_cons, List.mem_append] at hb ⊢
    rcases hb with hb | hb | hb | hb
    · exact .inl (.inl hb)
    · exact .inl (.inr (.inl hb))
    · simp [Value.ownBlock] at hb
      subst hb
      rcases hat with e2 | e2
      · exact .inl (.inr (.inr (.inl (by rw [e2]; simp))))
      exact .inr ⟨e2, hlt⟩
    exact .inl (.inr (.inr (.inr hb)))
  refine ⟨⟨?_, ?_, ?_, ?_, ?_, fun b hb hm => ?_, h.tabs, fun b hb => ?_⟩, fun b hb => ?_⟩
  · refine h.run.upd (l := wp :: sv.ownBlock.toList) h.tabs ho2 (fun b hb => ?_) (fun b hb => ?_)
    · have : b ∈ wkB wp tv sv bv := by
        rcases List.mem_cons.1 hb with rfl | hb
        · exact wkB_wp
        exact wkB_s b hb
      exact ⟨List.mem_append_left _ this, h.since b this⟩
    rcases List.mem_append.1 hb with hb | hb
    · rcases hin b hb with h1 | h1
      · exact .inl (List.mem_append_left _ h1)
      exact .inr (by rw [hz]; exact h1)
    exact .inl (List.mem_append_right _ hb)
  · simpa using hB7.set_ 3 (.slice (some ⟨gg, 0, none⟩) (a.stamps.length + 1) cap)
  · refine own_offk h.tree ho2 fun b hb hm => ?_
    obtain ⟨cs, hBb⟩ := own_blks h.tree b hb
    rcases List.mem_cons.1 hm with rfl | hm
    · exact h.blk.ne_ hBb (by decide) rfl
    obtain ⟨cs2, hBc⟩ := own_blks h.stamps b hm; exact hBb.ne_ hBc (by decide) rfl
  · have := own_offk (k := [wp]) hown ((Off.refl [wp] w7).setCell (p := ⟨wp, 3, none⟩) (.inr (by simp)) (.slice (some ⟨gg, 0, none⟩) (a.stamps.length + 1) cap)) (by simpa [Value.ownBlock] using hgw)
    rw [show stCells (a.stamps ++ [nd]) = stCells a.stamps ++ [.int .i64 nd.1, .int .i64 nd.2.1, .int .i64 nd.2.2] from by unfold stCells; rw [List.flatMap_append]; rfl, List.length_append]; exact this
  · refine own_offk h.blocked ho2 fun b hb hm => ?_
    obtain ⟨cs, hBb⟩ := own_blks h.blocked b hb
    rcases List.mem_cons.1 hm with rfl | hm
    · exact h.blk.ne_ hBb (by decide) rfl
    obtain ⟨cs2, hBc⟩ := own_blks h.stamps b hm; exact hBb.ne_ hBc (by decide) rfl
  · rcases hin b hm with h1 | h1
    · exact h.apart b hb h1
    have := h.lt b hb; omega
  · rcases hin b hb with h1 | h1
    · exact h.since b h1
    have := h.run.since.size; omega
  refine ho2.block b (h.lt b hb) fun hm => h.apart b hb ?_
  rcases List.mem_cons.1 hm with rfl | hm
  · exact wkB_wp
  exact wkB_s b hm
theorem SWf.push_blocked {w1 w7 : World} {gg cap : Nat} {nd : ByteArray} (h : SWf w0 w d wp rv D n a K tv sv bv) (ho : Off [] w w1) (hg : w1.grownBy w7 bv.ownBlock) (hat : bv.ownBlock = some gg ∨ w.heap.size ≤ gg) (hlt : gg < w7.heap.size)
    (hown : w7.ownsRow 0 9 1 (.slice (some ⟨gg, 0, none⟩) (a.blocked.length + 1) cap) (a.blocked.length + 1) (a.blocked.map Value.string ++ [.string nd])) :
    SWf w0 (w7.setCell ⟨wp, 4, none⟩ (.slice (some ⟨gg, 0, none⟩) (a.blocked.length + 1) cap)) d wp rv D n ⟨a.tree, a.stamps, a.blocked ++ [nd]⟩ K tv sv (.slice (some ⟨gg, 0, none⟩) (a.blocked.length + 1) cap) ∧ Kept K w (w7.setCell ⟨wp, 4, none⟩ (.slice (some ⟨gg, 0, none⟩) (a.blocked.length + 1) cap)) := by
  have hb : Off bv.ownBlock.toList w w7 := (ho.mono (fun _ _ h => by simp at h)).grown hg (fun k hk => .inr (by rw [hk]; simp))
  have hwv : wp ∉ bv.ownBlock.toList := fun hm => by
    obtain ⟨cs, hB⟩ := own_blks h.blocked wp hm; exact h.blk.ne_ hB (by decide) rfl
  have hB7 := h.blk.off hb hwv; have ho2 : Off (wp :: bv.ownBlock.toList) w (w7.setCell ⟨wp, 4, none⟩ (.slice (some ⟨gg, 0, none⟩) (a.blocked.length + 1) cap)) := (hb.mono (fun _ _ h => List.mem_cons_of_mem _ h)).setCell (.inr (by simp)) _
  have hgw : ¬ gg = wp := fun e => by
    rcases hat with e2 | e2
    · exact hwv (by rw [e2, e]; simp)
    have := h.blk.lt; omega
  have hz : (w7.setCell ⟨wp, 4, none⟩ (.slice (some ⟨gg, 0, none⟩) (a.blocked.length + 1) cap)).heap.size = w7.heap.size := by simp [World.setCell]
  have hin : ∀ b ∈ wkB wp tv sv (.slice (some ⟨gg, 0, none⟩) (a.blocked.length + 1) cap), b ∈ wkB wp tv sv bv ∨ (w.heap.size ≤ b ∧ b < w7.heap.size) := fun b hb => by
    unfold wkB at hb ⊢; simp only [List.mem_cons, List.mem_append] at hb ⊢
    rcases hb with hb | hb | hb | hb
    · exact .inl (.inl hb)
    · exact .inl (.inr (.inl hb))
    · exact .inl (.inr (.inr (.inl hb)))
    simp [Value.ownBlock] at hb
    subst hb
    rcases hat with e2 | e2
    · exact .inl (.inr (.inr (.inr (by rw [e2]; simp))))
    exact .inr ⟨e2, hlt⟩
  refine ⟨⟨?_, ?_, ?_, ?_, ?_, fun b hb hm => ?_, h.tabs, fun b hb => ?_⟩, fun b hb => ?_⟩
  · refine h.run.upd (l := wp :: bv.ownBlock.toList) h.tabs ho2 (fun b hb => ?_) (fun b hb => ?_)
    · have : b ∈ wkB wp tv sv bv := by
        rcases List.mem_cons.1 hb with rfl | hb
        · exact wkB_wp
        exact wkB_b b hb
      exact ⟨List.mem_append_left _ this, h.since b this⟩
    rcases List.mem_append.1 hb with hb | hb
    · rcases hin b hb with h1 | h1
      · exact .inl (List.mem_append_left _ h1)
      exact .inr (by rw [hz]; exact h1)
    exact .inl (List.mem_append_right _ hb)
  · simpa using hB7.set_ 4 (.slice (some ⟨gg, 0, none⟩) (a.blocked.length + 1) cap)
  · refine own_offk h.tree ho2 fun b hb hm => ?_
    obtain ⟨cs, hBb⟩ := own_blks h.tree b hb
    rcases List.mem_cons.1 hm with rfl | hm
    · exact h.blk.ne_ hBb (by decide) rfl
    obtain ⟨cs2, hBc⟩ := own_blks h.blocked b hm; exact hBb.ne_ hBc (by decide) rfl
  · refine own_offk h.stamps ho2 fun b hb hm => ?_
    obtain ⟨cs, hBb⟩ := own_blks h.stamps b hb
    rcases List.mem_cons.1 hm with rfl | hm
    · exact h.blk.ne_ hBb (by decide) rfl
    obtain ⟨cs2, hBc⟩ := own_blks h.blocked b hm; exact hBb.ne_ hBc (by decide) rfl
  · have := own_offk (k := [wp]) hown ((Off.refl [wp] w7).setCell (p := ⟨wp, 4, none⟩) (.inr (by simp)) (.slice (some ⟨gg, 0, none⟩) (a.blocked.length + 1) cap)) (by simpa [Value.ownBlock] using hgw)
    rw [show (a.blocked ++ [nd]).map Value.string = a.blocked.map Value.string ++ [.string nd] from by rw [List.map_append]; rfl, List.length_append]; exact this
  · rcases hin b hm with h1 | h1
    · exact h.apart b hb h1
    have := h.lt b hb; omega
  · rcases hin b hb with h1 | h1
    · exact h.since b h1
    have := h.run.since.size; omega
  refine ho2.block b (h.lt b hb) fun hm => h.apart b hb ?_
  rcases List.mem_cons.1 hm with rfl | hm
  · exact wkB_wp
  exact wkB_b b hm
theorem SWf.offk {l : List Nat} (h : SWf w0 w d wp rv D n a K tv sv bv) (ho : Off l w w') (hl : ∀ b ∈ l, b ∈ K ∧ w0.heap.size ≤ b) : SWf w0 w' d wp rv D n a K tv sv bv := by
  have hx : ∀ b ∈ wkB wp tv sv bv, b ∉ l := fun b hb hm => h.apart b (hl b hm).1 hb
  exact ⟨h.run.upd h.tabs ho (fun b hb => ⟨List.mem_append_right _ (hl b hb).1, (hl b hb).2⟩) (fun b hb => .inl hb), h.blk.off ho (hx _ wkB_wp), own_offk h.tree ho (fun b hb => hx b (wkB_t b hb)), own_offk h.stamps ho (fun b hb => hx b (wkB_s b hb)), own_offk h.blocked ho (fun b hb => hx b (wkB_b b hb)), h.apart, h.tabs, h.since⟩
theorem Kept.offk {l K : List Nat} (ho : Off l w w') (hK : ∀ b ∈ K, b < w.heap.size ∧ b ∉ l) : Kept K w w' := fun b hb => ho.block b (hK b hb).1 (hK b hb).2
end
end
section
open Go.RowKit Go.Op Go.Maps
def seeVal (r : Int × Node × Int × Int × Int) : Value := .tuple #[.agg #[.string r.2.1.path, .int .i64 r.2.1.kind, .string r.2.1.data, .int .i64 r.2.1.mode], .int .i64 r.1]
def Wk.seen (a : Wk) (r : Int × Node × Int × Int × Int) : Wk := if r.1 = 0 then a.add r.2.1 r.2.2 else a
theorem infoStamp : (Tryz.prog.info? 117).map (fun i => (i.zero, i.size, i.bytes)) = some (some (.agg #[.int .i64 0, .int .i64 0, .int .i64 0]), 3, 24) := by kernel_rfl
theorem see_res {W : World} {g : Nat} {nd : Node} {er : Int} {tmps : Array Value} (h : Blk W g 105 #[.string nd.path, .int .i64 nd.kind, .string nd.data, .int .i64 nd.mode]) (h4 : tmps.getD 4 undef = .pointer (some ⟨g, 0, none⟩)) (h5 : tmps.getD 5 undef = .int .i64 er) :
    (results Tryz.f74 tmps).run Tryz.prog W = .ok (seeVal (er, nd, 0, 0, 0)) W := by
  have hc := h.cell; unfold seeVal; have h4' : tmps[4]?.getD undef = .pointer (some ⟨g, 0, none⟩) := by simpa using h4
  have h5' : tmps[5]?.getD undef = .int .i64 er := by simpa using h5
  simp [results, Tryz.f74, go_sem, h4', h5', hc]
set_option maxRecDepth 100000 in
set_option maxHeartbeats 8000000 in
theorem see_any {w0 w : World} {d wp n n' : Nat} {rv : Value} {D D' : PDisk} {a : Wk} {K : List Nat} {path : ByteArray} {r : Int × Node × Int × Int × Int} (h : SW w0 w d wp rv D n a K)
    (hc : ∀ k W, RunE w0 W d D n k → Calls Tryz.prog 154 #[.pointer (some ⟨d, 0, none⟩), .string path] W fun e W' => e = .returned (getVal r) ∧ RunE w0 W' d D' n' k ∧ Kept k W W')
    (hlen : a.tree.length ≤ 1000000 ∧ a.stamps.length ≤ 1000000) :
    Calls Tryz.prog 74 #[.pointer (some ⟨wp, 0, none⟩), .string path] w fun e w' => e = .returned (seeVal r) ∧ SW w0 w' d wp rv D' n' (a.seen r) K ∧ Kept K w w' := by
  obtain ⟨tv, sv, bv, h⟩ := h; obtain ⟨er, nd, s1, s2, s3⟩ := r; have H := Lib.hid h; have HC := Lib.hid hc; have HL := Lib.hid hlen; have hcell := h.blk.cell; have hlt := h.blk.lt; clear h hc hlen
  go_enter Tryz.func74, Tryz.ntmps74
  go_wp2_with fail
  have HM1 := Lib.hid (H.out.more (K' := [w.heap.size]) (((Off.refl _ w).alloc (.cells #[.string ⟨#[]⟩, .int .i64 0, .string ⟨#[]⟩, .int .i64 0] 105))) (fun b hb => by simp at hb; subst hb; simp)); have HR1 := Lib.hid (Blk.new w 105 #[.string ⟨#[]⟩, .int .i64 0, .string ⟨#[]⟩, .int .i64 0])
  have HK1 := Lib.hid (Kept.of_off ((Off.refl _ w).alloc (.cells #[.string ⟨#[]⟩, .int .i64 0, .string ⟨#[]⟩, .int .i64 0] 105)) H.out.lt); refine (HC.out _ _ HM1.out.run).mono ?_; rintro e w1 ⟨rfl, hr, hk⟩; have HM2 := Lib.hid (HM1.out.next hr hk); have HR2 := Lib.hid (hk.blk HR1.out (List.mem_append_right _ (by simp))); have HK2 := Lib.hid (HK1.out.trans hk.right.right); clear hr hk hcell hlt
  unfold getVal; have hr0 := HR2.out.lt; have hrc := HR2.out.cell; have hrf := HR2.out.frozen
  by_cases he : er = 0
  · subst he
    go_wp2_with fail
    have HM3 := Lib.hid (HM2.out.more (K' := [w1.heap.size + 1, w1.heap.size]) (((Off.refl _ w1).alloc (.cells #[.string nd.path, .int .i64 nd.kind, .string nd.data, .int .i64 nd.mode] 105)).alloc (.cells #[.int .i64 s1, .int .i64 s2, .int .i64 s3] 117)) (fun b hb => by simp at hb; rcases hb with rfl | rfl <;> simp <;> omega))
    refine code_gen (fun W => SWf w0 W d wp rv D' n' a ([w1.heap.size + 1, w1.heap.size] ++ ([w.heap.size] ++ K)) tv sv bv ∧ Blk W w.heap.size 105 #[.string ⟨#[]⟩, .int .i64 0, .string ⟨#[]⟩, .int .i64 0] ∧ Blk W w1.heap.size 105 #[.string nd.path, .int .i64 nd.kind, .string nd.data, .int .i64 nd.mode] ∧ Blk W (w1.heap.size + 1) 117 #[.int .i64 s1, .int .i64 s2, .int .i64 s3] ∧ Kept K w W)
      ⟨HM3.out, (HR2.out.alloc _).alloc _, (Blk.new w1 _ _).alloc _, Blk.new1 w1 _ _ _, HK2.out.trans (Kept.of_off (((Off.refl _ w1).alloc _).alloc _) (fun b hb => HM2.out.lt b (List.mem_append_right _ hb)))⟩ ?_
    clear hr0 hrc hrf; rintro W ⟨hm, hr, hN, hS, hk⟩; obtain ⟨i0, hi0, hz0, hz1, hz2⟩ := info_parts infoNode; have HM4 := Lib.hid hm; have HR4 := Lib.hid hr; have HN4 := Lib.hid hN; have HS4 := Lib.hid hS; have HK4 := Lib.hid hk; have hl4 := HL.out.1; have hcw := hm.blk.cell; have hfw := hm.blk.frozen; have hlw := hm.blk.lt; have hcn := hN.cell; have hln := hN.lt
    have hoA : Off [] W (W.drew.alloc (.cells #[.string nd.path, .int .i64 nd.kind, .string nd.data, .int .i64 nd.mode] 105)) := ((Off.refl [] W).drew).alloc _
    have HOA := Lib.hid hoA; have HW6 := Lib.hid (own_offk (k := []) hm.tree hoA (by simp)); have HBP := Lib.hid (hm.blk.off hoA (by simp)); have hpl : some wp ≠ tv.ownBlock := fun e => by
      obtain ⟨cs, hB⟩ := own_blks hm.tree wp (by rw [← e]; simp); exact hm.blk.ne_ hB (by decide) rfl
    have HPL := Lib.hid hpl; clear hm hr hN hS hk hoA hpl
    go_cut [] from 21 to 30 (fun wx => ∃ tv', SWf w0 wx d wp rv D' n' ⟨a.tree ++ [nd], a.stamps, a.blocked⟩ ([w1.heap.size + 1, w1.heap.size] ++ ([w.heap.size] ++ K)) tv' sv bv ∧ Blk wx w.heap.size 105 #[.string ⟨#[]⟩, .int .i64 0, .string ⟨#[]⟩, .int .i64 0] ∧ Blk wx w1.heap.size 105 #[.string nd.path, .int .i64 nd.kind, .string nd.data, .int .i64 nd.mode] ∧ Blk wx (w1.heap.size + 1) 117 #[.int .i64 s1, .int .i64 s2, .int .i64 s3] ∧ Kept K w wx)
    case first =>
      go_region_law ((refine step_append_lies _ (by rfl) _ _ _ (by rfl) 0 105 i0 _ 4 48 Tryz.underlying22 hi0 hz0 hz1 hz2 rfl (by decide) _ a.tree.length _ (by rfl) HW6.out ⟨W.heap.size, 0, none⟩ 1 1 [_, _, _, _] (by rfl) (by rfl) (nd_four_at (Blk.new W.drew _ _)) (by simp [Value.oneCell']) (by omega) (by unfold maxLen; omega) (by omega) (by simp) (W.heap.size + 1) (by simp) ?_; intro gg cap w7 hown7 hgrow7 hat7 hlt7; have hB7 := HBP.out.grown hgrow7 HPL.out; have hc7 := hB7.cell; have hf7 := hB7.frozen; have hl7 := hB7.lt))
      all_goals go_wp2_with fail
      all_goals go_meet
      all_goals
        obtain ⟨hq, hk7⟩ := HM4.out.push_tree (nd := nd) HOA.out hgrow7 (hat7.imp_right fun e => by rw [e]; omega) hlt7 hown7; exact ⟨_, hq, hk7.blk HR4.out (by simp), hk7.blk HN4.out (by simp), hk7.blk HS4.out (by simp), HK4.out.trans hk7.right.right⟩
    case rest =>
    obtain ⟨tv', hm, hr, hN, hS, hk⟩ := hcut; clear hcw hfw hlw hcn hln
    go_wp2_with fail
    refine code_gen (fun W => SWf w0 W d wp rv D' n' ⟨a.tree ++ [nd], a.stamps, a.blocked⟩ ([w1.heap.size + 1, w1.heap.size] ++ ([w.heap.size] ++ K)) tv' sv bv ∧ Blk W w.heap.size 105 #[.string ⟨#[]⟩, .int .i64 0, .string ⟨#[]⟩, .int .i64 0] ∧ Blk W w1.heap.size 105 #[.string nd.path, .int .i64 nd.kind, .string nd.data, .int .i64 nd.mode] ∧ Blk W (w1.heap.size + 1) 117 #[.int .i64 s1, .int .i64 s2, .int .i64 s3] ∧ Kept K w W) ⟨hm, hr, hN, hS, hk⟩ ?_
    clear hm hr hN hS hk HM4 HR4 HN4 HS4 HK4 HOA HW6 HBP HPL; rintro W2 ⟨hm, hr, hN, hS, hk⟩; obtain ⟨i1, hi1, hy0, hy1, hy2⟩ := info_parts infoStamp; have HM4 := Lib.hid hm; have HR4 := Lib.hid hr; have HN4 := Lib.hid hN; have HS4 := Lib.hid hS; have HK4 := Lib.hid hk; have hl4 := HL.out.2; have hcw := hm.blk.cell; have hfw := hm.blk.frozen; have hlw := hm.blk.lt; have hcn := hS.cell
    have hln := hS.lt; have hoA : Off [] W2 (W2.drew.alloc (.cells #[.int .i64 s1, .int .i64 s2, .int .i64 s3] 117)) := ((Off.refl [] W2).drew).alloc _
    have HOA := Lib.hid hoA; have HW6 := Lib.hid (own_offk (k := []) hm.stamps hoA (by simp)); have HBP := Lib.hid (hm.blk.off hoA (by simp)); have hpl : some wp ≠ sv.ownBlock := fun e => by
      obtain ⟨cs, hB⟩ := own_blks hm.stamps wp (by rw [← e]; simp); exact hm.blk.ne_ hB (by decide) rfl
    have HPL := Lib.hid hpl; clear hm hr hN hS hk hoA hpl
    go_cut [] from 31 to 40 (fun wx => ∃ sv', SWf w0 wx d wp rv D' n' ⟨a.tree ++ [nd], a.stamps ++ [(s1, s2, s3)], a.blocked⟩ ([w1.heap.size + 1, w1.heap.size] ++ ([w.heap.size] ++ K)) tv' sv' bv ∧ Blk wx w.heap.size 105 #[.string ⟨#[]⟩, .int .i64 0, .string ⟨#[]⟩, .int .i64 0] ∧ Blk wx w1.heap.size 105 #[.string nd.path, .int .i64 nd.kind, .string nd.data, .int .i64 nd.mode] ∧ Blk wx (w1.heap.size + 1) 117 #[.int .i64 s1, .int .i64 s2, .int .i64 s3] ∧ Kept K w wx)
    case first =>
      go_region_law ((refine step_append_lies _ (by rfl) _ _ _ (by rfl) 0 117 i1 _ 3 24 Tryz.underlying28 hi1 hy0 hy1 hy2 rfl (by decide) _ a.stamps.length _ (by rfl) HW6.out ⟨W2.heap.size, 0, none⟩ 1 1 [_, _, _] (by rfl) (by rfl) (cell_three_at (Blk.new W2.drew _ _)) (by simp [Value.oneCell']) (by omega) (by unfold maxLen; omega) (by omega) (by simp) (W2.heap.size + 1) (by simp) ?_; intro gg cap w7 hown7 hgrow7 hat7 hlt7; have hB7 := HBP.out.grown hgrow7 HPL.out; have hc7 := hB7.cell; have hf7 := hB7.frozen; have hl7 := hB7.lt))
      all_goals go_wp2_with fail
      all_goals go_meet
      all_goals
        obtain ⟨hq, hk7⟩ := HM4.out.push_stamps (nd := (s1, s2, s3)) HOA.out hgrow7 (hat7.imp_right fun e => by rw [e]; omega) hlt7 hown7; exact ⟨_, hq, hk7.blk HR4.out (by simp), hk7.blk HN4.out (by simp), hk7.blk HS4.out (by simp), HK4.out.trans hk7.right.right⟩
    case rest =>
    obtain ⟨sv', hm, hr, hN, hS, hk⟩ := hcut; clear hcw hfw hlw hcn hln; have hrc := hr.cell; have hrf := hr.frozen; have hrl := hr.lt; have hnc := hN.cell; have hnl := hN.lt; have HR5 := Lib.hid hr; have HM5 := Lib.hid hm; have HK5 := Lib.hid hk; clear hr hm hk hN hS
    go_wp2_with fail
    have ho := (((((Off.refl [w.heap.size] wc).setCell (p := ⟨w.heap.size, 0, none⟩) (.inr (by simp)) (.string nd.path)).setCell (p := ⟨w.heap.size, 1, none⟩) (.inr (by simp)) (.int .i64 nd.kind)).setCell (p := ⟨w.heap.size, 2, none⟩) (.inr (by simp)) (.string nd.data)).setCell (p := ⟨w.heap.size, 3, none⟩) (.inr (by simp)) (.int .i64 nd.mode))
    have hB := ((((HR5.out.set_ 0 (.string nd.path)).set_ 1 (.int .i64 nd.kind)).set_ 2 (.string nd.data)).set_ 3 (.int .i64 nd.mode)); simp only [List.setIfInBounds_toArray, List.set_cons_zero, List.set_cons_succ] at hB; refine bodyPost_ret (see_res (er := 0) hB rfl rfl) rfl ?_; refine ⟨rfl, ⟨tv', sv', bv, ?_⟩, ?_⟩
    · rw [show a.seen (0, nd, s1, s2, s3) = ⟨a.tree ++ [nd], a.stamps ++ [(s1, s2, s3)], a.blocked⟩ from rfl]
      exact (HM5.out.offk ho (fun b hb => by simp at hb; subst hb; exact ⟨by simp, H.out.run.since.size⟩)).drop (fun b hb => List.mem_append_right _ (List.mem_append_right _ hb))
    exact HK5.out.trans (Kept.offk ho (fun b hb => ⟨HM5.out.lt b (List.mem_append_right _ (List.mem_append_right _ hb)), fun hm => by simp at hm; subst hm; exact absurd (H.out.lt _ hb) (Nat.lt_irrefl _)⟩))
  go_wp2_with fail
  have ho : Off [w.heap.size] w1 ((((((w1.setCell ⟨w.heap.size, 0, none⟩ (.string nd.path)).setCell ⟨w.heap.size, 1, none⟩ (.int .i64 nd.kind)).setCell ⟨w.heap.size, 2, none⟩ (.string nd.data)).setCell ⟨w.heap.size, 3, none⟩ (.int .i64 nd.mode)).alloc
        (.cells #[.string nd.path, .int .i64 nd.kind, .string nd.data, .int .i64 nd.mode] 105)).alloc (.cells #[.int .i64 s1, .int .i64 s2, .int .i64 s3] 117)) :=
    ((((((Off.refl [w.heap.size] w1).setCell (.inr (by simp)) _).setCell (.inr (by simp)) _).setCell (.inr (by simp)) _).setCell (.inr (by simp)) _).alloc _).alloc _
  have hB := (((((HR2.out.set_ 0 (.string nd.path)).set_ 1 (.int .i64 nd.kind)).set_ 2 (.string nd.data)).set_ 3 (.int .i64 nd.mode)).alloc (.cells #[.string nd.path, .int .i64 nd.kind, .string nd.data, .int .i64 nd.mode] 105)).alloc (.cells #[.int .i64 s1, .int .i64 s2, .int .i64 s3] 117); simp only [List.setIfInBounds_toArray, List.set_cons_zero, List.set_cons_succ] at hB
  refine bodyPost_ret (see_res (er := er) hB rfl rfl) rfl ?_
  refine ⟨rfl, ⟨tv, sv, bv, ?_⟩, ?_⟩
  · rw [show a.seen (er, nd, s1, s2, s3) = a by unfold Wk.seen; rw [if_neg he]]
    exact (HM2.out.offk ho (fun b hb => by simp at hb; subst hb; exact ⟨by simp, H.out.run.since.size⟩)).drop (fun b hb => List.mem_append_right _ hb)
  exact HK2.out.trans (Kept.offk ho (fun b hb => ⟨HM2.out.lt b (List.mem_append_right _ hb), fun hm => by simp at hm; subst hm; exact absurd (H.out.lt _ hb) (Nat.lt_irrefl _)⟩))
end
section
open Go.RowKit Go.Op Go.Maps
def goC (see : ByteArray → Bool) (dn : PDisk → ByteArray → Wk → Int × Wk × PDisk) (dc : PDisk → ByteArray → Wk → Nat) : List ByteArray → PDisk → Wk → Nat
  | [], _, _ => 0
  | p :: ps, D, a =>
    if see p then
      match D.edited.get p with
      | ((er, nd, s), D1) =>
        if er ≠ 0 then 1
        else if nd.kind = 2 then
          match dn D1 p (a.add nd s) with
          | (e2, a2, D2) => 1 + dc D1 p (a.add nd s) + if e2 ≠ 0 then 0 else goC see dn dc ps D2 a2
        else 1 + goC see dn dc ps D1 (a.add nd s)
    else goC see dn dc ps D a
def walkC (see : ByteArray → Bool) : Nat → PDisk → ByteArray → Wk → Nat
  | 0, _, _, _ => 0
  | f + 1, D, dir, a =>
    match D.edited.namesC dir with
    | ((l, e), D1) =>
      if e ≠ 0 then 1
      else 1 + goC see (walkW see f) (walkC see f) (l.map (belD dir)) D1 (a.block (hidN see (l.map (belD dir))) dir)
structure Budget (w0 : World) (d : Nat) (Bud : Nat → PDisk → Nat → Prop) : Prop where
  get : ∀ {m : Nat} {D : PDisk} {n : Nat} (path : ByteArray), Bud (m + 1) D n → path.size ≤ 1000000 → ∃ n', Bud m (D.edited.get path).2 n' ∧
    ∀ k W, RunE w0 W d D n k → Calls Tryz.prog 154 #[.pointer (some ⟨d, 0, none⟩), .string path] W fun e W' => e = .returned (getVal (D.edited.get path).1) ∧ RunE w0 W' d (D.edited.get path).2 n' k ∧ Kept k W W'
  names : ∀ {m : Nat} {D : PDisk} {n : Nat} (path : ByteArray), Bud (m + 1) D n → path.size ≤ 1000000 → ((D.edited.namesC path).1.1.length ≤ 1000000 ∧ ∀ x ∈ (D.edited.namesC path).1.1, x.size ≤ 1000000) ∧ ∃ n', Bud m (D.edited.namesC path).2 n' ∧
    ∀ k W, RunE w0 W d D n k → Calls Tryz.prog 102 #[.pointer (some ⟨d, 0, none⟩), .string path] W fun e W' => ∃ v wm, e = .returned (.tuple #[v, .int .i64 (D.edited.namesC path).1.2]) ∧
      W'.ownsRow wm.heap.size 9 1 v (D.edited.namesC path).1.1.length ((D.edited.namesC path).1.1.map Value.string) ∧ RunE w0 wm d (D.edited.namesC path).2 n' k ∧ Off [] wm W' ∧ Kept k W W'
  le : ∀ {m D n}, Bud m D n → m ≤ 900000
  less : ∀ {m m' D n}, Bud m D n → m' ≤ m → Bud m' D n
def RlK (K : List Nat) (W : World) (L : List RuleP) (q : Option Addr) (c : Nat) : Prop := RlOk W L q c ∧ (L ≠ [] → ∀ a : Addr, q = some a → a.block ∈ K)
theorem RlK.kept {K : List Nat} {W W' : World} {L q c} (h : RlK K W L q c) (hk : Kept K W W') : RlK K W' L q c := by
  refine ⟨⟨h.1.1, h.1.2.1, fun hL => ?_, h.1.2.2.2⟩, h.2⟩
  obtain ⟨a, e, hB, hc⟩ := h.1.2.2.1 hL; have hh := hk _ (h.2 hL a e); refine ⟨a, e, ?_, fun i x hx => ⟨(World.cell?_of_block (w := W) (by rw [add_block]; exact hh)).trans (hc i x hx).1, (World.cell?_of_block (w := W) (by show W'.heap[(a.add (i * 2)).block]? = _; rw [add_block]; exact hh)).trans (hc i x hx).2⟩⟩; rw [Array.getElem?_eq_getElem hB] at hh; exact (Array.getElem?_eq_some_iff.1 hh).1
theorem RlK.more {K K' : List Nat} {W : World} {L q c} (h : RlK K W L q c) (hK : ∀ b ∈ K, b ∈ K') : RlK K' W L q c := ⟨h.1, fun hL g e => hK _ (h.2 hL g e)⟩
def depD (dir : ByteArray) : Nat := if str dir = [] then 0 else (parts (str dir)).length
theorem hid_step {see : ByteArray → Bool} {ps : List ByteArray} {k : Nat} {x : ByteArray} (hx : ps[k]? = some x) : hidN see (ps.drop k) = ((decide (x ≠ ownB) && !see x) || hidN see (ps.drop (k + 1))) := by
  obtain ⟨hk, rfl⟩ := List.getElem?_eq_some_iff.1 hx; rw [List.drop_eq_getElem_cons hk]
  rfl
section
variable {see : ByteArray → Bool} {dn : PDisk → ByteArray → Wk → Int × Wk × PDisk} {dc : PDisk → ByteArray → Wk → Nat} {x : ByteArray} {r : List ByteArray} {D D1 : PDisk} {a : Wk} {er : Int} {nd : Node} {s : Int × Int × Int}
theorem goW_skip (h : see x = false) : goW see dn (x :: r) D a = goW see dn r D a ∧ goC see dn dc (x :: r) D a = goC see dn dc r D a := by
  constructor
  · conv => lhs; unfold goW
    rw [if_neg (by rw [h]; decide)]
  conv => lhs; unfold goC
  rw [if_neg (by rw [h]; decide)]
theorem goW_err (h : see x = true) (hg : D.edited.get x = ((er, nd, s), D1)) (he : er ≠ 0) : goW see dn (x :: r) D a = (er, a, D1) ∧ goC see dn dc (x :: r) D a = 1 := by
  constructor
  · conv => lhs; unfold goW
    rw [if_pos h, hg]; simp only [if_pos he]
  conv => lhs; unfold goC
  rw [if_pos h, hg]; simp only [if_pos he]
theorem goW_file (h : see x = true) (hg : D.edited.get x = ((0, nd, s), D1)) (hk : nd.kind ≠ 2) : goW see dn (x :: r) D a = goW see dn r D1 (a.add nd s) ∧ goC see dn dc (x :: r) D a = 1 + goC see dn dc r D1 (a.add nd s) := by
  constructor
  · conv => lhs; unfold goW
    rw [if_pos h, hg]; simp [hk]
  conv => lhs; unfold goC
  rw [if_pos h, hg]; simp [hk]
theorem goW_dir (h : see x = true) (hg : D.edited.get x = ((0, nd, s), D1)) (hk : nd.kind = 2) : goW see dn (x :: r) D a = (if (dn D1 x (a.add nd s)).1 ≠ 0 then ((dn D1 x (a.add nd s)).1, (dn D1 x (a.add nd s)).2.1, (dn D1 x (a.add nd s)).2.2) else goW see dn r (dn D1 x (a.add nd s)).2.2 (dn D1 x (a.add nd s)).2.1) ∧
    goC see dn dc (x :: r) D a = 1 + dc D1 x (a.add nd s) + if (dn D1 x (a.add nd s)).1 ≠ 0 then 0 else goC see dn dc r (dn D1 x (a.add nd s)).2.2 (dn D1 x (a.add nd s)).2.1 := by
  constructor
  · conv => lhs; unfold goW
    rw [if_pos h, hg]; simp [hk]
  conv => lhs; unfold goC
  rw [if_pos h, hg]; simp [hk]
end
def Wk.len (a : Wk) : Nat := a.tree.length + a.stamps.length + a.blocked.length
theorem add_len (a : Wk) (nd : Node) (s : Int × Int × Int) : (a.add nd s).len = a.len + 2 := by
  unfold Wk.len Wk.add; simp; omega
theorem block_len (a : Wk) (b : Bool) (dir : ByteArray) : (a.block b dir).len ≤ a.len + 1 := by
  unfold Wk.len Wk.block
  split
  · simp; omega
  omega
theorem goW_len {see : ByteArray → Bool} {dn : PDisk → ByteArray → Wk → Int × Wk × PDisk} {dc : PDisk → ByteArray → Wk → Nat} (hdn : ∀ D x a, (dn D x a).2.1.len ≤ a.len + 3 * dc D x a) : ∀ (ps : List ByteArray) (D : PDisk) (a : Wk), (goW see dn ps D a).2.1.len ≤ a.len + 3 * goC see dn dc ps D a
  | [], D, a => by unfold goW goC; simp
  | p :: ps, D, a => by
    cases h : see p
    · obtain ⟨e1, e2⟩ := goW_skip (see := see) (dn := dn) (dc := dc) (r := ps) (D := D) (a := a) h
      rw [e1, e2]; exact goW_len (see := see) hdn ps D a
    rcases hg : D.edited.get p with ⟨⟨er, nd, s⟩, D1⟩
    by_cases he : er = 0
    · subst he
      have hal := add_len a nd s
      by_cases hk : nd.kind = 2
      · obtain ⟨e1, e2⟩ := goW_dir (dn := dn) (dc := dc) (r := ps) (a := a) h hg hk
        rw [e1, e2]; have h1 := hdn D1 p (a.add nd s)
        by_cases hz : (dn D1 p (a.add nd s)).1 = 0
        · rw [if_neg (by rw [hz]; decide), if_neg (by rw [hz]; decide)]
          have h2 := goW_len (see := see) hdn ps (dn D1 p (a.add nd s)).2.2 (dn D1 p (a.add nd s)).2.1; omega
        rw [if_pos hz, if_pos hz]; dsimp only; omega
      obtain ⟨e1, e2⟩ := goW_file (dn := dn) (dc := dc) (r := ps) (a := a) h hg hk; rw [e1, e2]; have h2 := goW_len (see := see) hdn ps D1 (a.add nd s); omega
    obtain ⟨e1, e2⟩ := goW_err (dn := dn) (dc := dc) (r := ps) (a := a) h hg he; rw [e1, e2]; dsimp only; omega
theorem walkW_len {see : ByteArray → Bool} : ∀ (f : Nat) (D : PDisk) (x : ByteArray) (a : Wk), (walkW see f D x a).2.1.len ≤ a.len + 3 * walkC see f D x a
  | 0, D, x, a => by unfold walkW walkC; simp
  | f + 1, D, x, a => by
    unfold walkW walkC
    rcases D.edited.namesC x with ⟨⟨l, e⟩, D1⟩
    by_cases he : e = 0
    · subst he
      simp only [ne_eq, not_true_eq_false, if_false]
      have h1 := goW_len (see := see) (walkW_len (see := see) f) (l.map (belD x)) D1 (a.block (hidN see (l.map (belD x))) x); have h2 := block_len a (hidN see (l.map (belD x))) x; omega
    simp only [ne_eq, he, not_false_eq_true, if_true]
    omega
theorem depD_child {dir y : ByteArray} (hd : dir = ⟨#[]⟩ ∨ okPath (str dir) = true) (hx : okPath (str (belD dir y)) = true) : depD dir + 1 ≤ depD (belD dir y) := by
  have hne : ¬ str (belD dir y) = [] := fun e => by rw [e] at hx; revert hx; decide
  have hpos := List.length_pos_iff.2 (parts_ne (str (belD dir y))); unfold depD; rw [if_neg hne]
  by_cases hd0 : str dir = []
  · rw [if_pos hd0]; omega
  rw [if_neg hd0]; have hdn : ¬ dir = ⟨#[]⟩ := fun e => hd0 (by rw [e]; rfl)
  have hok := hd.resolve_left hdn; have e : str (belD dir y) = str dir ++ 47 :: str y := by
    unfold belD; rw [if_neg hdn]; simp [str]
  rw [e, parts_append, List.length_append]; have := List.length_pos_iff.2 (parts_ne (str y)); omega
def DownOk (w0 : World) (d wp : Nat) (L : List RuleP) (q : Option Addr) (c : Nat) (Bud : Nat → PDisk → Nat → Prop) (f : Nat) : Prop :=
  ∀ (w : World) (D : PDisk) (dir : ByteArray) (a : Wk) (n m : Nat) (K : List Nat), SW w0 w d wp (.slice q L.length c) D n a K → RlK K w L q c → Bud (walkC (seeV L) f D dir a + m) D n → (dir = ⟨#[]⟩ ∨ okPath (str dir) = true) → depD dir + f ≥ 17 →
    a.tree.length + a.stamps.length + a.blocked.length + (walkC (seeV L) f D dir a) * 3 ≤ 1000000 →
    Calls Tryz.prog 67 #[.pointer (some ⟨wp, 0, none⟩), .string dir] w fun e w' => e = .returned (.int .i64 (walkW (seeV L) f D dir a).1) ∧ ∃ n', SW w0 w' d wp (.slice q L.length c) (walkW (seeV L) f D dir a).2.2 n' (walkW (seeV L) f D dir a).2.1 K ∧ Bud m (walkW (seeV L) f D dir a).2.2 n' ∧ Kept K w w'
theorem made_str (n : Nat) : madeCells #[Value.string ⟨#[]⟩] n = (List.replicate n (Value.string ⟨#[]⟩)).toArray := by
  apply Array.ext
  · simp [madeCells]
  intro i h1 h2
  simp [madeCells, Nat.mod_one]
def pathC (l : List ByteArray) (dir : ByteArray) (N i : Nat) : Array Value := ((l.take i).map (fun x => Value.string (belD dir x)) ++ List.replicate (N - i) (Value.string ⟨#[]⟩)).toArray
theorem pathC_set {l : List ByteArray} {dir x : ByteArray} {N i : Nat} (hN : l.length = N) (hi : l[i]? = some x) : (pathC l dir N i).setIfInBounds i (.string (belD dir x)) = pathC l dir N (i + 1) := by
  obtain ⟨hlt, rfl⟩ := List.getElem?_eq_some_iff.1 hi; unfold pathC; have e1 : ((l.take i).map (fun x => Value.string (belD dir x))).length = i := by simp; omega
  rw [List.setIfInBounds_toArray, List.set_append_right _ _ (by omega), e1, Nat.sub_self, show N - i = (N - (i + 1)) + 1 by omega, List.replicate_succ, List.set_cons_zero, List.take_succ_eq_append_getElem hlt, List.map_append, List.append_assoc]
  rfl
theorem pathC_size {l : List ByteArray} {dir : ByteArray} {N i : Nat} (hN : l.length = N) (hi : i ≤ N) : (pathC l dir N i).size = N := by
  unfold pathC; simp; omega
theorem pathC_two {l : List ByteArray} {dir : ByteArray} {N i : Nat} (u v : Value) : ((pathC l dir N i).setIfInBounds i u).setIfInBounds i v = (pathC l dir N i).setIfInBounds i v := by
  simp
theorem pathC_all {l : List ByteArray} {dir : ByteArray} {N : Nat} (hN : l.length = N) : pathC l dir N N = ((l.map (belD dir)).map Value.string).toArray := by
  unfold pathC; rw [List.take_of_length_le (by omega), Nat.sub_self]; simp
set_option maxRecDepth 100000 in
set_option maxHeartbeats 8000000 in
theorem down_step {w0 : World} {d wp : Nat} {L : List RuleP} {q : Option Addr} {c : Nat} {Bud : Nat → PDisk → Nat → Prop} (hBud : Budget w0 d Bud) (f : Nat) (IH : DownOk w0 d wp L q c Bud f) : DownOk w0 d wp L q c Bud (f + 1) := by
  intro w D dir a n m K h hR hm hd hf hl
  obtain ⟨tv, sv, bv, h⟩ := h; have hds : dir.size ≤ 400 := by
    rcases hd with rfl | hd
    · decide
    rw [← str_size]; exact ok_size hd
  have HW := Lib.hid (show walkW (seeV L) (f + 1) D dir a = match D.edited.namesC dir with
    | ((l, e), D1) => if e ≠ 0 then (e, a, D1) else goW (seeV L) (walkW (seeV L) f) (l.map (belD dir)) D1 (a.block (hidN (seeV L) (l.map (belD dir))) dir) from rfl)
  have HC := Lib.hid (show walkC (seeV L) (f + 1) D dir a = match D.edited.namesC dir with
    | ((l, e), D1) => if e ≠ 0 then 1 else 1 + goC (seeV L) (walkW (seeV L) f) (walkC (seeV L) f) (l.map (belD dir)) D1 (a.block (hidN (seeV L) (l.map (belD dir))) dir) from rfl)
  generalize walkW (seeV L) (f + 1) D dir a = wk at *
  generalize walkC (seeV L) (f + 1) D dir a = wc at *
  have hwc : 1 ≤ wc := by
    have := HC.out; generalize D.edited.namesC dir = r at this; obtain ⟨⟨l, e⟩, D1⟩ := r
    by_cases he : e = 0
    · simp [he] at this; omega
    simp [he] at this; omega
  obtain ⟨j, rfl⟩ : ∃ j, wc = j + 1 := ⟨wc - 1, by omega⟩
  have HLe := Lib.hid (hBud.le hm); obtain ⟨⟨hnl, hns⟩, n1, hb1, hcall⟩ := hBud.names dir (show Bud ((j + m) + 1) D n by rw [show j + m + 1 = j + 1 + m by omega]; exact hm) (by omega); generalize D.edited.namesC dir = r at *; obtain ⟨⟨l, er⟩, D1⟩ := r; dsimp only at *; have H := Lib.hid h; have HCall := Lib.hid hcall; have HB1 := Lib.hid hb1; have HR := Lib.hid hR; have HBud := Lib.hid hBud
  have HNS := Lib.hid hns; have HIH := Lib.hid IH; have HD := Lib.hid hd; have HDF := Lib.hid hf; have hcell := h.blk.cell; have hlt := h.blk.lt; clear h hcall hb1 hR hm hns IH hBud hd hf
  go_enter Tryz.func67, Tryz.ntmps67
  go_wp2_with fail
  refine (HCall.out _ _ H.out.run).mono ?_
  rintro e w1 ⟨v, wm, rfl, hrow, hrun, hom, hk⟩; obtain ⟨pv, cv, rfl, hcv, hcm, hcells⟩ := own_at hrow; have HM1 := Lib.hid (H.out.next (hrun.off hom) hk); have HK1 := Lib.hid hk.right; have HCV := Lib.hid hcells; obtain ⟨N, hN⟩ : ∃ N, l.length = N := ⟨_, rfl⟩
  rw [hN] at hnl hcv; have HN := Lib.hid hN; rw [hN]; clear hrow hrun hom hk hcells hcell hlt hN
  by_cases he : er = 0
  · subst he
    have HW2 := Lib.hid (show wk = goW (seeV L) (walkW (seeV L) f) (l.map (belD dir)) D1 (a.block (hidN (seeV L) (l.map (belD dir))) dir) from HW.out); have HC2 := Lib.hid (show j = goC (seeV L) (walkW (seeV L) f) (walkC (seeV L) f) (l.map (belD dir)) D1 (a.block (hidN (seeV L) (l.map (belD dir))) dir) from by have := HC.out; simp at this; omega); clear HW HC
    have hmk := run_make_row' (P := Tryz.prog) 45 9 (.string ⟨#[]⟩) 16 Tryz.underlying45 infoStr7 rfl .i64 .i64 N (by omega) (by omega)
    go_wp2_with fail
    have HK2 := Lib.hid (HR.out.kept HK1.out)
    go_loopw [33] (fun x wr => ∃ i : Nat, x = .int .i64 i ∧ i ≤ N ∧ Blk wr w1.heap.size 9 (pathC l dir N i) ∧ Off [] w1 wr) (fun x _ => N - (intOf x).toNat)
    case atStart => exact ⟨0, rfl, Nat.zero_le _, by
      have := Blk.new w1 9 (madeCells #[Value.string ⟨#[]⟩] N); rw [made_str] at this ⊢; exact this, (Off.refl _ _).alloc _⟩
    case round =>
      obtain ⟨i, rfl, hi, hP, ho⟩ := hrel; have HP := Lib.hid hP; have HO := Lib.hid ho; have hPc := hP.cell; have hPf := hP.frozen; have hPl := hP.lt
      rcases Nat.lt_or_ge i N with hlt | hge
      · obtain ⟨x, hx⟩ : ∃ x, l[i]? = some x := ⟨l[i]'(by rw [HN.out]; exact hlt), List.getElem?_eq_getElem _⟩
        obtain ⟨g, rfl, -, hgl, -, hgc⟩ := HCV.out (by rw [HN.out]; omega); have hgi : wr.cell? ⟨g, i, none⟩ = some (.string x) := (ho.cell (p := ⟨g, i, none⟩) hgl (by simp)).trans (hgc i (.string x) (by rw [List.getElem?_map, hx]; rfl))
        have hxs := HNS.out x (List.mem_of_getElem? hx); have HX := Lib.hid hx; obtain ⟨u, hu⟩ : ∃ u, (pathC l dir N i)[i]? = some u := ⟨_, Array.getElem?_eq_getElem (by rw [pathC_size HN.out hi]; exact hlt)⟩
        have hPi := (hPc i).trans hu; have hPfi := hPf i; clear hP ho hgc hx hPc hPf hu
        by_cases hd0 : dir = ⟨#[]⟩
        · have g1 : dir.toList = [] := by rw [hd0, toList_str]; rfl
          have g2 : dir.toList.isEmpty = true := by rw [g1]; rfl
          have HB := Lib.hid (show belD dir x = x by unfold belD; rw [if_pos hd0]); clear hd0
          go_wp2_with fail
          refine ⟨⟨i + 1, by congr 1, by omega, ?_, HO.out.setCell (.inl (Nat.le_refl _)) _⟩, by simp only [intOf]; omega⟩
          have := HP.out.set_ i (.string (belD dir x))
          rwa [pathC_set HN.out HX.out, HB.out] at this
        have g1 : ¬ dir.toList = [] := fun e => hd0 (str_inj (by rw [← toList_str, e]; rfl))
        have g2 : dir.toList.isEmpty = false := by simpa using g1
        have HB := Lib.hid (show belD dir x = dir ++ (⟨#[47]⟩ : ByteArray) ++ x by unfold belD; rw [if_neg hd0]); clear hd0
        go_wp2_with fail
        refine ⟨⟨i + 1, by congr 1, by omega, ?_, (HO.out.setCell (.inl (Nat.le_refl _)) _).setCell (.inl (Nat.le_refl _)) _⟩, by simp only [intOf]; omega⟩
        have := (HP.out.set_ i (.string x)).set_ i (.string (belD dir x))
        rwa [pathC_two, pathC_set HN.out HX.out, HB.out] at this
      obtain rfl : N = i := by omega
      go_upto_block 2 with fail
      have HM3 := Lib.hid (HM1.out.more (K' := [w1.heap.size]) HO.out (fun b hb => by simp at hb; subst hb; exact ⟨Nat.le_refl _, hPl⟩)); have HK3 := Lib.hid (HK1.out.trans (Kept.of_off HO.out HM1.out.lt)); have HP3 := Lib.hid (show Blk wr w1.heap.size 9 (((l.map (belD dir)).map Value.string).toArray) by have := HP.out; rwa [pathC_all HN.out] at this)
      have HR3 := Lib.hid ((HK2.out.kept (Kept.of_off HO.out HM1.out.lt)).more (K' := [w1.heap.size] ++ K) (fun b hb => List.mem_append_right _ hb)); clear hPc hPf hPl hP ho HP HO HCV hmk; generalize hPB : w1.heap.size = P at *
      have HPB := Lib.hid hPB; clear hPB; refine code_gen (fun W => SWf w0 W d wp (.slice q L.length c) D1 n1 a ([P] ++ K) tv sv bv ∧ Kept K w W ∧ Blk W P 9 (((l.map (belD dir)).map Value.string).toArray) ∧ RlK ([P] ++ K) W L q c) ⟨HM3.out, HK3.out, HP3.out, HR3.out⟩ ?_; clear HM3 HK3 HP3 HR3 HM1 HK1 HK2; rintro W3 ⟨hm3, hk3, hp3, hr3⟩
      go_cut [11] from 54 to 79 (fun _ wx => SW w0 wx d wp (.slice q L.length c) D1 n1 (a.block (hidN (seeV L) (l.map (belD dir))) dir) ([P] ++ K) ∧ Kept ([P] ++ K) W3 wx)
      case first =>
        have HM4 := Lib.hid hm3; have HP4 := Lib.hid hp3; have HR4 := Lib.hid hr3; have HPS := Lib.hid (show (l.map (belD dir)).length = N by rw [List.length_map]; exact HN.out); clear hm3 hp3 hr3 hk3; generalize l.map (belD dir) = ps at *
        go_wp2_with fail
        go_loopw [54] (fun x wr => ∃ k : Nat, x = .int .i64 k ∧ k ≤ N ∧ Off [] W3 wr ∧ hidN (seeV L) ps = hidN (seeV L) (ps.drop k)) (fun x _ => N - (intOf x).toNat)
        case atStart => exact ⟨0, rfl, Nat.zero_le _, Off.refl _ _, rfl⟩
        case round =>
          obtain ⟨k, rfl, hk, ho, hh⟩ := hrel; have HO4 := Lib.hid ho; have HH4 := Lib.hid hh
          rcases Nat.lt_or_ge k N with hlt | hge
          · obtain ⟨x, hx⟩ : ∃ x, ps[k]? = some x := ⟨ps[k]'(by rw [HPS.out]; exact hlt), List.getElem?_eq_getElem _⟩
            have hpb := (HP4.out.off ho (by simp)); have hpc : wr.cell? ⟨P, k, none⟩ = some (.string x) := (hpb.cell k).trans (by simp [hx])
            have hwb := HM4.out.blk.off ho (by simp); have hwc0 := hwb.cell 0; clear ho hh hpb hwb; have HST := Lib.hid (hid_step (see := seeV L) hx); have HTX := Lib.hid (HM4.out.run.tabs.off HO4.out); have hwl := (HM4.out.blk.off HO4.out (by simp)).lt
            by_cases hx0 : x = ownB
            · have g : x.toList = [46, 104, 97, 119, 115, 101, 114] := by rw [hx0, toList_str]; rfl
              have HX0 := Lib.hid hx0; clear hx0
              go_wp2_with fail
              refine ⟨⟨k + 1, by congr 1, by omega, HO4.out, by rw [HH4.out, HST.out, HX0.out]; simp⟩, by simp only [intOf]; omega⟩
            have g : ¬ x.toList = [46, 104, 97, 119, 115, 101, 114] := fun e => hx0 (str_inj (by rw [← toList_str, e]; rfl))
            have g2 : (x.toList == [46, 104, 97, 119, 115, 101, 114]) = false := by simpa using g
            have HX0 := Lib.hid hx0; clear hx0; have HSN := Lib.hid (seen_any L q c x wr (HR4.out.1.off HO4.out) HTX.out)
            cases hsv : seeV L x
            · have HSV := Lib.hid hsv
              clear hsv
              go_wp2_with fail
              refine HSN.out.mono ?_
              rintro e w5 ⟨rfl, ho5⟩; rw [HSV.out]; have HO5 := Lib.hid (HO4.out.trans_nil ho5); clear ho5 hwc0 hwl hpc; have HM5 := Lib.hid (HM4.out.off HO5.out); have hwc4 := HM5.out.blk.cell; have hwf4 := HM5.out.blk.frozen; have hwl4 := HM5.out.blk.lt; obtain ⟨i0, hi0, hz0, hz1, hz2⟩ := info_parts infoStr7; have hoA := (Off.refl [] w5).alloc (.cells #[.string dir] 9)
              have hown6 := own_offk (k := []) HM5.out.blocked hoA (by simp); have HBA := Lib.hid (HM5.out.blk.off hoA (by simp)); have HPL := Lib.hid (show some wp ≠ bv.ownBlock from fun e => by
                obtain ⟨cs, hB⟩ := own_blks HM5.out.blocked wp (by rw [← e]; simp); exact HM5.out.blk.ne_ hB (by decide) rfl)
              go_wp2_with (at_builtin; refine wpList_append_own_at _ rfl _ _ 45 rfl 0 9 i0 (.string ⟨#[]⟩) 1 16 Tryz.underlying45 hi0 hz0 hz1 hz2 rfl (by decide) _ _ _ rfl hown6 ⟨w5.heap.size, 0, none⟩ 1 1 [_] rfl rfl (cell_one_at (Blk.new w5 _ _)) (by simp [Value.oneCell']) (by unfold maxLen; omega) (by omega) (by simp) ?_; intro v' W6 hown' hgrow _ hat6; obtain ⟨gg, cap, rfl⟩ := ownsRow_succ hown'; have hB6 := HBA.out.grown hgrow HPL.out; have hc6 := hB6.cell; have hf6 := hB6.frozen; have hl6 := hB6.lt)
              go_meet
              have hlt6 : gg < W6.heap.size := by
                obtain ⟨cs, hB⟩ := own_blks hown' gg (by simp [Value.ownBlock]); exact hB.lt
              obtain ⟨hq, hk7⟩ := HM5.out.push_blocked (nd := dir) hoA hgrow (hat6.elim (fun e => .inl (show bv.ownBlock = some gg from e.symm)) (fun e => .inr (by simp [Value.ownBlock] at e; omega))) hlt6 hown'; have htrue : hidN (seeV L) ps = true := by rw [HH4.out, HST.out, HSV.out, decide_eq_true HX0.out]; rfl
              rw [htrue]; exact ⟨⟨tv, sv, _, hq⟩, (Kept.of_off HO5.out HM4.out.lt).trans hk7⟩
            have HSV := Lib.hid hsv; clear hsv
            go_wp2_with fail
            refine HSN.out.mono ?_
            rintro e w5 ⟨rfl, ho5⟩; rw [HSV.out]; have HO5 := Lib.hid (HO4.out.trans_nil ho5); clear ho5
            go_wp2_with fail
            refine ⟨⟨k + 1, by congr 1, by omega, HO5.out, by rw [HH4.out, HST.out, HSV.out]; simp⟩, by simp only [intOf]; omega⟩
          obtain rfl : N = k := by omega
          go_wp2_with fail
          go_meet
          have hnone : hidN (seeV L) ps = false := by rw [HH4.out, List.drop_of_length_le (by rw [HPS.out]; exact Nat.le_refl _)]; rfl
          rw [hnone]; exact ⟨⟨tv, sv, bv, HM4.out.off HO4.out⟩, Kept.of_off HO4.out HM4.out.lt⟩
      case rest =>
        obtain ⟨hm4, hk4⟩ := hcut; have HK4 := Lib.hid (hk3.trans hk4.right); have HP4 := Lib.hid (hk4.blk hp3 (List.mem_append_left _ (by simp))); have HR4 := Lib.hid (hr3.kept hk4); have HPS := Lib.hid (show (l.map (belD dir)).length = N by rw [List.length_map]; exact HN.out)
        have HCH := Lib.hid (show ∀ x ∈ l.map (belD dir), okPath (str x) = true → depD dir + 1 ≤ depD x from fun x hx hok => by
          obtain ⟨y, -, rfl⟩ := List.mem_map.1 hx; exact depD_child HD.out hok)
        have hln : (a.block (hidN (seeV L) (l.map (belD dir))) dir).tree.length + (a.block (hidN (seeV L) (l.map (belD dir))) dir).stamps.length + (a.block (hidN (seeV L) (l.map (belD dir))) dir).blocked.length ≤ a.tree.length + a.stamps.length + a.blocked.length + 1 := by
          unfold Wk.block
          split
          · simp; omega
          omega
        have HLN := Lib.hid hln; clear hm3 hp3 hr3 hk3 hk4 hln; generalize l.map (belD dir) = ps at *; generalize a.block (hidN (seeV L) ps) dir = a0 at *; have HM4 := Lib.hid hm4; clear hm4
        go_wp2_with fail
        go_loopw [82] (fun x wr => ∃ (k : Nat) (D2 : PDisk) (a2 : Wk) (n2 : Nat), x = .int .i64 k ∧ k ≤ N ∧ SW w0 wr d wp (.slice q L.length c) D2 n2 a2 ([P] ++ K) ∧ Kept ([P] ++ K) wc wr ∧ Bud (goC (seeV L) (walkW (seeV L) f) (walkC (seeV L) f) (ps.drop k) D2 a2 + m) D2 n2 ∧
            wk = goW (seeV L) (walkW (seeV L) f) (ps.drop k) D2 a2 ∧ a2.tree.length + a2.stamps.length + a2.blocked.length + goC (seeV L) (walkW (seeV L) f) (walkC (seeV L) f) (ps.drop k) D2 a2 * 3 ≤ 1000000) (fun x _ => N - (intOf x).toNat)
        case atStart => exact ⟨0, D1, a0, n1, rfl, Nat.zero_le _, HM4.out, fun b _ => rfl, by rw [List.drop_zero, ← HC2.out]; exact HB1.out, by rw [List.drop_zero]; exact HW2.out, by rw [List.drop_zero, ← HC2.out]; have := HLN.out; omega⟩
        case round =>
          obtain ⟨k, D2, a2, n2, rfl, hk, hsw, hkp, hbd, hwk, hl2⟩ := hrel; have HSW := Lib.hid hsw; have HKP := Lib.hid hkp; have HBD := Lib.hid hbd; have HWK := Lib.hid hwk; have HL2 := Lib.hid hl2
          rcases Nat.lt_or_ge k N with hlt | hge
          · obtain ⟨x, hx⟩ : ∃ x, ps[k]? = some x := ⟨ps[k]'(by rw [HPS.out]; exact hlt), List.getElem?_eq_getElem _⟩
            have hdr : ps.drop k = x :: ps.drop (k + 1) := by
              obtain ⟨hk2, rfl⟩ := List.getElem?_eq_some_iff.1 hx; exact List.drop_eq_getElem_cons hk2
            rw [hdr] at hbd hwk hl2; have hpc : wr.cell? ⟨P, k, none⟩ = some (.string x) := ((hkp.blk HP4.out (List.mem_append_left _ (by simp))).cell k).trans (by simp [hx])
            obtain ⟨tv2, sv2, bv2, hsf⟩ := hsw; have hwc0 := hsf.blk.cell 0; have hwlt := hsf.blk.lt; have HR5 := Lib.hid (HR4.out.kept hkp); have HSN := Lib.hid (seen_any L q c x wr HR5.out.1 hsf.run.tabs); have HSF := Lib.hid hsf; have HBX := Lib.hid hbd; have HWX := Lib.hid hwk; have HLX := Lib.hid hl2; have HXM := Lib.hid (List.mem_of_getElem? hx); clear hsf hkp hbd hwk hl2 hdr hx
            cases hsv : seeV L x
            · have HSV := Lib.hid hsv
              obtain ⟨e1, e2⟩ := goW_skip (see := seeV L) (dn := walkW (seeV L) f) (dc := walkC (seeV L) f) (r := ps.drop (k + 1)) (D := D2) (a := a2) hsv; have HE := Lib.hid (And.intro e1 e2); clear hsv e1 e2
              go_wp2_with fail
              refine HSN.out.mono ?_
              rintro e w5 ⟨rfl, ho5⟩; rw [HSV.out]; have HO5 := Lib.hid ho5; clear ho5
              go_wp2_with fail
              refine ⟨⟨k + 1, D2, a2, n2, by congr 1, by omega, ⟨_, _, _, HSF.out.off HO5.out⟩, HKP.out.trans (Kept.of_off HO5.out HSF.out.lt), by rw [← HE.out.2]; exact HBX.out, by rw [← HE.out.1]; exact HWX.out, by rw [← HE.out.2]; exact HLX.out⟩, by simp only [intOf]; omega⟩
            have HSV := Lib.hid hsv; have hok : okPath (str x) = true := by
              unfold seeV at hsv; simp only [Bool.and_eq_true] at hsv; exact hsv.1.1
            have HOK := Lib.hid hok; clear hok; have hdx : depD x + f ≥ 17 := by have := HCH.out x HXM.out HOK.out; have := HDF.out; omega
            have HDX := Lib.hid hdx; clear hdx; have hx4 : x.size ≤ 400 := by rw [← str_size]; exact ok_size HOK.out
            rcases hget : D2.edited.get x with ⟨⟨er, nd, s1, s2, s3⟩, D3⟩
            have hg1 : 1 ≤ goC (seeV L) (walkW (seeV L) f) (walkC (seeV L) f) (x :: ps.drop (k + 1)) D2 a2 := by
              by_cases he : er = 0
              · subst he
                by_cases hkd : nd.kind = 2
                · rw [(goW_dir (dn := walkW (seeV L) f) (dc := walkC (seeV L) f) (r := ps.drop (k + 1)) (a := a2) hsv hget hkd).2]; omega
                rw [(goW_file (dn := walkW (seeV L) f) (dc := walkC (seeV L) f) (r := ps.drop (k + 1)) (a := a2) hsv hget hkd).2]; omega
              rw [(goW_err (dn := walkW (seeV L) f) (dc := walkC (seeV L) f) (r := ps.drop (k + 1)) (a := a2) hsv hget he).2]; exact Nat.le_refl _
            obtain ⟨g, hg⟩ : ∃ g, goC (seeV L) (walkW (seeV L) f) (walkC (seeV L) f) (x :: ps.drop (k + 1)) D2 a2 = g + 1 := ⟨_, (Nat.sub_add_cancel hg1).symm⟩
            have hbx := HBX.out; rw [hg, show g + 1 + m = (g + m) + 1 by omega] at hbx; obtain ⟨n3, hb3, hcg⟩ := HBud.out.get x hbx (by omega); rw [hget] at hb3 hcg; have hlx := HLX.out; rw [hg] at hlx; have HLG := Lib.hid hlx; have HG := Lib.hid hg; have HB3 := Lib.hid hb3
            have HSEE := Lib.hid (fun W (ho : Off [] wr W) => see_any (a := a2) (r := (er, nd, s1, s2, s3)) (D' := D3) (n' := n3) ⟨tv2, sv2, bv2, HSF.out.off ho⟩ hcg (by omega)); have HGET := Lib.hid hget; have HSV2 := Lib.hid hsv; clear hsv hget hg1 hbx hb3 hcg hlx hg hx4
            go_wp2_with fail
            refine HSN.out.mono ?_
            rintro e w5 ⟨rfl, ho5⟩; rw [HSV.out]; have HO5 := Lib.hid ho5; have HK5 := Lib.hid (Kept.of_off ho5 HSF.out.lt); clear ho5
            go_wp2_with fail
            refine (HSEE.out _ HO5.out).mono ?_
            rintro e w6 ⟨rfl, hs6, hk6⟩; unfold seeVal; have HS6 := Lib.hid hs6; have HK6 := Lib.hid (HKP.out.trans (HK5.out.trans hk6)); clear hs6 hk6 hwc0 hwlt hpc; have hal := (Off.refl [] w6).alloc (.cells #[.string nd.path, .int .i64 nd.kind, .string nd.data, .int .i64 nd.mode] 105); have HS7 := Lib.hid (HS6.out.off hal)
            have HK7 := Lib.hid (HK6.out.trans (Kept.of_off hal (fun b hb => by obtain ⟨_, _, _, h⟩ := HS6.out; exact h.lt b hb))); clear hal
            by_cases he : er = 0
            · subst he
              by_cases hkd : nd.kind = 2
              · obtain ⟨e1, e2⟩ := goW_dir (dn := walkW (seeV L) f) (dc := walkC (seeV L) f) (r := ps.drop (k + 1)) (a := a2) HSV2.out HGET.out hkd
                have hwx := HWX.out; have hgg := HG.out; rw [e1] at hwx; rw [e2] at hgg; have hwl3 := walkW_len (see := seeV L) f D3 x (a2.add nd (s1, s2, s3)); have hal3 := add_len a2 nd (s1, s2, s3); have hIH := HIH.out; unfold DownOk at hIH; have hih := fun W m h1 h2 h3 h4 => hIH W D3 x (a2.add nd (s1, s2, s3)) n3 m ([P] ++ K) h1 h2 h3 (.inr HOK.out) HDX.out h4
                clear hIH e1 e2; generalize walkC (seeV L) f D3 x (a2.add nd (s1, s2, s3)) = wc2 at *; generalize walkW (seeV L) f D3 x (a2.add nd (s1, s2, s3)) = R at *; obtain ⟨e2, a4, D4⟩ := R; dsimp only at hwx hgg hwl3 hih; have HWX2 := Lib.hid hwx; have HGG := Lib.hid hgg; have HWL := Lib.hid hwl3; have HAL := Lib.hid hal3; have hs7 := HS7.out; have hk7 := HK7.out
                rw [hkd] at hs7 hk7; have HS9 := Lib.hid hs7; have HK9 := Lib.hid hk7; have HC6 := Lib.hid hih; clear hs7 hk7; clear hwx hgg hwl3 hal3 hih
                by_cases hz : e2 = 0
                · subst hz
                  have hgz : g = wc2 + goC (seeV L) (walkW (seeV L) f) (walkC (seeV L) f) (ps.drop (k + 1)) D4 a4 := by
                    have := HGG.out; rw [if_neg (by decide)] at this; omega
                  have HGZ := Lib.hid hgz; have hwz : wk = goW (seeV L) (walkW (seeV L) f) (ps.drop (k + 1)) D4 a4 := by
                    have := HWX2.out
                    rwa [if_neg (by decide)] at this
                  have HWZ := Lib.hid hwz; clear hgz hwz
                  go_wp2_with fail
                  refine (HC6.out _ (goC (seeV L) (walkW (seeV L) f) (walkC (seeV L) f) (ps.drop (k + 1)) D4 a4 + m) HS9.out (HR4.out.kept HK9.out) (by rw [← Nat.add_assoc, ← HGZ.out]; exact HB3.out) (by
                    have h1 := HAL.out; have h2 := HLG.out; have h3 := HGZ.out; unfold Wk.len at h1; omega)).mono ?_
                  rintro e w8 ⟨rfl, n4, hs8, hb8, hk8⟩; have HS8 := Lib.hid hs8; have HB8 := Lib.hid hb8; have HK8 := Lib.hid (HK9.out.trans hk8); clear hs8 hb8 hk8
                  go_wp2_with fail
                  refine ⟨⟨k + 1, D4, a4, n4, by congr 1, by omega, HS8.out, HK8.out, HB8.out, HWZ.out, ?_⟩, by simp only [intOf]; omega⟩
                  have h1 := HAL.out; have h2 := HLG.out; have h3 := HGZ.out; have h4 := HWL.out; unfold Wk.len at h1 h4; omega
                have hgz : g = wc2 := by
                  have := HGG.out; rw [if_pos hz] at this; omega
                have HGZ := Lib.hid hgz; have hwz : wk = (e2, a4, D4) := by
                  have := HWX2.out
                  rwa [if_pos hz] at this
                have HWZ := Lib.hid hwz; clear hgz hwz
                go_wp2_with fail
                refine (HC6.out _ m HS9.out (HR4.out.kept HK9.out) (by rw [← HGZ.out]; exact HB3.out) (by
                  have h1 := HAL.out; have h2 := HLG.out; have h3 := HGZ.out; unfold Wk.len at h1; omega)).mono ?_
                rintro e w8 ⟨rfl, n4, hs8, hb8, hk8⟩; have HS8 := Lib.hid hs8; have HB8 := Lib.hid hb8; have HK8 := Lib.hid (HK9.out.trans hk8); clear hs8 hb8 hk8
                go_wp2_with fail
                go_ret
                rw [HWZ.out]; refine ⟨rfl, n4, ?_, HB8.out, HK4.out.trans HK8.out.right⟩; obtain ⟨t1, b1, c1, h1⟩ := HS8.out; exact ⟨t1, b1, c1, h1.drop (fun b hb => List.mem_append_right _ hb)⟩
              obtain ⟨e1, e2⟩ := goW_file (dn := walkW (seeV L) f) (dc := walkC (seeV L) f) (r := ps.drop (k + 1)) (a := a2) HSV2.out HGET.out hkd; have hwx := HWX.out; have hgg := HG.out; rw [e1] at hwx; rw [e2] at hgg; have HWX2 := Lib.hid hwx; have hg0 : g = goC (seeV L) (walkW (seeV L) f) (walkC (seeV L) f) (ps.drop (k + 1)) D3 (a2.add nd (s1, s2, s3)) := by omega
              have HG0 := Lib.hid hg0; have HAL := Lib.hid (add_len a2 nd (s1, s2, s3)); clear hwx hgg e1 e2 hg0
              go_wp2_with fail
              refine ⟨⟨k + 1, D3, a2.add nd (s1, s2, s3), n3, by congr 1, by omega, HS7.out, HK7.out, by rw [← HG0.out]; exact HB3.out, HWX2.out, ?_⟩, by simp only [intOf]; omega⟩
              rw [← HG0.out]; have h1 := HAL.out; have h2 := HLG.out; unfold Wk.len at h1; omega
            obtain ⟨e1, e2⟩ := goW_err (dn := walkW (seeV L) f) (dc := walkC (seeV L) f) (r := ps.drop (k + 1)) (a := a2) HSV2.out HGET.out he; have hwx := HWX.out; have hgg := HG.out; rw [e1] at hwx; rw [e2] at hgg; have hg0 : g = 0 := by omega
            subst hg0 hwx; have hsn : a2.seen (er, nd, s1, s2, s3) = a2 := by unfold Wk.seen; rw [if_neg he]
            have HSN2 := Lib.hid hsn; have HB4 := Lib.hid (show Bud m D3 n3 by have := HB3.out; rwa [Nat.zero_add] at this); clear e1 e2 hgg hsn
            go_wp2_with fail
            go_ret
            refine ⟨rfl, n3, ?_, HB4.out, HK4.out.trans HK7.out.right⟩
            obtain ⟨t1, b1, c1, h1⟩ := HS7.out; rw [HSN2.out] at h1; exact ⟨t1, b1, c1, h1.drop (fun b hb => List.mem_append_right _ hb)⟩
          obtain rfl : N = k := by omega
          go_wp2_with fail
          go_ret
          have hnil : ps.drop N = [] := List.drop_of_length_le (by rw [HPS.out]; exact Nat.le_refl _)
          have hw0 : wk = (0, a2, D2) := by have := HWK.out; rw [hnil] at this; exact this
          subst hw0; refine ⟨rfl, n2, ?_, ?_, HK4.out.trans HKP.out.right⟩
          · obtain ⟨t1, s1, b1, h1⟩ := HSW.out
            exact ⟨t1, s1, b1, h1.drop (fun b hb => List.mem_append_right _ hb)⟩
          have := HBD.out; rw [hnil] at this; exact HBud.out.less this (by omega)
  have hwk : wk = (er, a, D1) := by have := HW.out; rwa [if_pos he] at this
  have hj : j = 0 := by have := HC.out; rw [if_pos he] at this; omega
  subst hwk hj
  go_wp2_with fail
  go_ret
  exact ⟨rfl, n1, ⟨tv, sv, bv, HM1.out⟩, by rw [Nat.zero_add] at HB1; exact HB1.out, HK1.out⟩
theorem down_any {w0 : World} {d wp : Nat} {L : List RuleP} {q : Option Addr} {c : Nat} {Bud : Nat → PDisk → Nat → Prop} (hBud : Budget w0 d Bud) : ∀ f, DownOk w0 d wp L q c Bud f
  | 0 => fun w D dir a n m K _ _ _ hd hf _ => by
    exfalso
    rcases hd with rfl | hd
    · unfold depD at hf
      rw [if_pos (show str (⟨#[]⟩ : ByteArray) = [] from rfl)] at hf; omega
    have := ok_depth hd; unfold depD at hf
    split at hf <;> omega
  | f + 1 => down_step hBud f (down_any hBud f)
end
section
open Go.RowKit Go.Op Go.Maps
def bad01 (e : Int) : Nat := if e = 0 then 0 else 1
theorem goC_le {see : ByteArray → Bool} {dn : PDisk → ByteArray → Wk → Int × Wk × PDisk} {dc : PDisk → ByteArray → Wk → Nat} (hdn : ∀ D x a, dc D x a + 2 * a.tree.length ≤ 2 * (dn D x a).2.1.tree.length + 1 + bad01 (dn D x a).1) :
    ∀ (ps : List ByteArray) (D : PDisk) (a : Wk), goC see dn dc ps D a + 2 * a.tree.length ≤ 2 * (goW see dn ps D a).2.1.tree.length + bad01 (goW see dn ps D a).1
  | [], D, a => by unfold goW goC; simp
  | p :: ps, D, a => by
    cases h : see p
    · obtain ⟨e1, e2⟩ := goW_skip (see := see) (dn := dn) (dc := dc) (r := ps) (D := D) (a := a) h
      rw [e1, e2]; exact goC_le hdn ps D a
    rcases hg : D.edited.get p with ⟨⟨er, nd, s⟩, D1⟩
    by_cases he : er = 0
    · subst he
      have hal : (a.add nd s).tree.length = a.tree.length + 1 := by unfold Wk.add; simp
      by_cases hk : nd.kind = 2
      · obtain ⟨e1, e2⟩ := goW_dir (dn := dn) (dc := dc) (r := ps) (a := a) h hg hk
        rw [e1, e2]; have h1 := hdn D1 p (a.add nd s)
        by_cases hz : (dn D1 p (a.add nd s)).1 = 0
        · rw [if_neg (by rw [hz]; decide), if_neg (by rw [hz]; decide)]
          have h2 := goC_le (see := see) hdn ps (dn D1 p (a.add nd s)).2.2 (dn D1 p (a.add nd s)).2.1; rw [hz] at h1; simp only [bad01, if_pos] at h1; omega
        rw [if_pos hz, if_pos hz]; dsimp only; omega
      obtain ⟨e1, e2⟩ := goW_file (dn := dn) (dc := dc) (r := ps) (a := a) h hg hk; rw [e1, e2]; have h2 := goC_le (see := see) hdn ps D1 (a.add nd s); omega
    obtain ⟨e1, e2⟩ := goW_err (dn := dn) (dc := dc) (r := ps) (a := a) h hg he; rw [e1, e2]; dsimp only; simp only [bad01, if_neg he]; omega
theorem walkC_le {see : ByteArray → Bool} : ∀ (f : Nat) (D : PDisk) (x : ByteArray) (a : Wk), walkC see f D x a + 2 * a.tree.length ≤ 2 * (walkW see f D x a).2.1.tree.length + 1 + bad01 (walkW see f D x a).1
  | 0, D, x, a => by unfold walkW walkC; simp; omega
  | f + 1, D, x, a => by
    unfold walkW walkC
    rcases D.edited.namesC x with ⟨⟨l, e⟩, D1⟩
    by_cases he : e = 0
    · subst he
      simp only [ne_eq, not_true_eq_false, if_false]
      have h1 := goC_le (see := see) (walkC_le (see := see) f) (l.map (belD x)) D1 (a.block (hidN see (l.map (belD x))) x); have h2 : (a.block (hidN see (l.map (belD x))) x).tree = a.tree := by unfold Wk.block; split <;> rfl
      rw [h2] at h1; omega
    simp only [ne_eq, he, not_false_eq_true, if_true, bad01, if_false]
    omega
end
end Go.Proofs.YthciejabapdbgaaGreatDoor
