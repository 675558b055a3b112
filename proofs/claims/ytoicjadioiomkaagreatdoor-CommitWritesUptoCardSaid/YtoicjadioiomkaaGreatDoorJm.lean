/- Texts of this claim, one behind the other: ArcC RdW CrcW ComLaw ArcK BldW ArcQ ArcE ArcF RdR RecW. Conditions: what each lemma states. -/
import Derived.Test.YtoicjadioiomkaaGreatDoorJl
import Derived.Test.YtoicjadioiomkaaGreatDoorJb
import Derived.Test.YtoicjadioiomkaaGreatDoorJc
import Derived.Test.YtoicjadioiomkaaGreatDoorJi
import Derived.Shelf.Strings.SlTrimAscii
import Derived.Deep.QuietTactic
import Derived.BigQuiet
import Derived.Test.YtoicjadioiomkaaGreatDoorJh
import Derived.Shelf.Strings.Builder1
import Derived.Deep.RegionHeld3
import Derived.StillTailTactics
set_option linter.unusedVariables false
set_option linter.unusedSimpArgs false
namespace Go.Proofs.YtoicjadioiomkaaGreatDoor
section
open Go.RowKit Go.Op
def hexS : ByteArray := ⟨#[48, 49, 50, 51, 52, 53, 54, 55, 56, 57, 97, 98, 99, 100, 101, 102]⟩
theorem hexS_has : ∀ b : UInt8, hexS.data.toList.contains b = digitB b := by
  have h : ∀ i : Fin 256, hexS.data.toList.contains (UInt8.ofNat i.val) = digitB (UInt8.ofNat i.val) := by decide +kernel
  intro b
  have := h ⟨b.toNat, b.toNat_lt⟩
  simpa using this
theorem dropWhile_nil {α : Type} (p : α → Bool) : ∀ l : List α, l.dropWhile p = [] ↔ l.all p = true
  | [] => by simp
  | x :: l => by
    by_cases h : p x = true
    · simp [h, dropWhile_nil p l]
    simp [h]
theorem trimS_nil (l cs : List UInt8) : Lib.trimS l cs = [] ↔ l.all (cs.contains ·) = true := by
  unfold Lib.trimS Lib.trimLeftS Lib.trimRightS; rw [dropWhile_nil]
  constructor
  · intro h
    have hd : ∀ (l : List UInt8), (∀ x ∈ (l.dropWhile (cs.contains ·)), cs.contains x = true) → ∀ x ∈ l, cs.contains x = true := fun l => by
      induction l with
      | nil => intro _ x hx; cases hx
      | cons y l ih =>
        intro hx x hm
        by_cases hy : cs.contains y = true
        · rw [List.dropWhile_cons, if_pos hy] at hx
          rcases List.mem_cons.1 hm with rfl | hm
          · exact hy
          exact ih hx x hm
        rw [List.dropWhile_cons, if_neg hy] at hx; exact hx x hm
    rw [List.all_eq_true] at h ⊢
    intro x hx
    exact hd l.reverse (fun y hy => h y (by simpa using hy)) x (by simpa using hx)
  intro h
  have : l.reverse.dropWhile (cs.contains ·) = [] := (dropWhile_nil _ _).2 (by rw [List.all_reverse]; exact h)
  rw [this]
  rfl
theorem trim_hex (s : ByteArray) (w : World) (hs : s.size ≤ maxLen) :
    Calls Tryz.prog 232 #[.string s, .string hexS] w fun e w' => ∃ r : ByteArray, e = .returned (.string r) ∧ (r.toList = [] ↔ (str s).all digitB = true) ∧ Off [] w w' := by
  refine (Any.strings_Trim_laid Tryz.lays160 (by kernel_rfl) s hexS w (by unfold maxLen at hs; omega) (by decide) (ascii_of_all (by decide))).mono ?_
  rintro e w' ⟨rfl, hb⟩; refine ⟨_, rfl, ?_, Off.of_below hb⟩; rw [ByteArray.toList_eq]
  show (Lib.trimS s.data.toList hexS.data.toList).toArray.toList = [] ↔ _
  rw [List.toList_toArray, trimS_nil]; have : (fun x => hexS.data.toList.contains x) = digitB := funext hexS_has
  rw [this]
  rfl
set_option maxRecDepth 100000 in
theorem adigits_any (s : ByteArray) (w : World) (hs : s.size ≤ maxLen) :
    Calls Tryz.prog 175 #[.string s] w fun e w' => e = .returned (.bool (digitsV s)) ∧ Off [] w w' := by
  unfold digitsV; have HT := Lib.hid (trim_hex s w hs); unfold hexS at HT
  by_cases h64 : s.size = 64
  · have hq : ((s.size : Int) == 64) = true := by rw [h64]; rfl
    have HE := Lib.hid h64; clear h64 hs
    go_enter Tryz.func175, Tryz.ntmps175
    go_wp2_with fail
    refine HT.out.mono ?_
    rintro e w1 ⟨r, rfl, hr, ho⟩
    cases hd : (str s).all digitB
    · have hrn : r.toList.isEmpty = false := by
        cases hl : r.toList with
        | nil => rw [hr.1 hl] at hd; cases hd
        | cons x l => rfl
      have HD := Lib.hid hd; clear hd hr
      go_wp2_with fail
      go_ret
      exact ⟨by rw [HE.out, HD.out]; rfl, ho⟩
    have hrn : r.toList.isEmpty = true := by rw [hr.2 hd]; rfl
    have HD := Lib.hid hd; clear hd hr
    go_wp2_with fail
    go_ret
    exact ⟨by rw [HE.out, HD.out]; rfl, ho⟩
  have hq : ((s.size : Int) == 64) = false := beq_eq_false_iff_ne.2 (by omega)
  have HE := Lib.hid h64; clear h64 hs
  go_enter Tryz.func175, Tryz.ntmps175
  go_wp2_with fail
  go_ret
  exact ⟨by rw [decide_eq_false HE.out]; rfl, Off.refl _ _⟩
set_option maxRecDepth 100000 in
theorem oddN_any (n : Node) (w : World) (hs : n.data.size ≤ maxLen) (b : Bool) (hb : (!bareN n) = b) :
    Calls Tryz.prog 174 #[.agg #[.string n.path, .int .i64 n.kind, .string n.data, .int .i64 n.mode]] w fun e w' => e = .returned (.bool b) ∧ Off [] w w' := by
  unfold bareN at hb
  by_cases hk : n.kind = 2
  · have hq : (n.kind == 2) = true := by rw [hk]; rfl
    have hbb : b = false := by rw [← hb, hk]; rfl
    subst hbb; clear hb
    go_enter Tryz.func174, Tryz.ntmps174
    go_wp2_with fail
    go_ret
    exact ⟨rfl, (Off.refl _ _).alloc _⟩
  have hq : (n.kind == 2) = false := beq_eq_false_iff_ne.2 hk
  have hq2 : (n.kind != 2) = true := by rw [bne, hq]; rfl
  have hbb : b = !digitsV n.data := by rw [← hb, decide_eq_false hk]; rfl
  have HC := Lib.hid (fun (W : World) => adigits_any n.data W hs)
  cases hd : digitsV n.data
  all_goals
    rw [hd] at HC hbb; subst hbb; clear hb hd
    go_enter Tryz.func174, Tryz.ntmps174
    go_wp2_with fail
    refine (HC.out _).mono ?_
    rintro e w1 ⟨rfl, ho⟩; have HO := Lib.hid (show Off [] w w1 from ((Off.refl _ _).alloc _).trans_nil ho); clear ho
    go_wp2_with fail
    go_ret
    exact ⟨rfl, HO.out⟩
set_option maxRecDepth 100000 in
set_option maxHeartbeats 4000000 in
theorem ixN_any (tp : Option Addr) (t : List Node) (n c : Nat) (w : World) (hR : Row w tp t) (hn : t.length = n) (hb : n ≤ 10000000000000) (hF : ∀ x ∈ t, x.data.size ≤ maxLen) :
    Calls Tryz.prog 233 #[.slice tp n c, .func (.func 174) #[] #[]] w fun e w' => ∃ v : Int, e = .returned (.int .i64 v) ∧ (0 ≤ v ↔ t.all bareN = false) ∧ Off [] w w' := by
  have HN := Lib.hid hn; have HR := Lib.hid hR; have HF := Lib.hid (hF); clear hn hR hF
  go_enter Tryz.func233, Tryz.ntmps233
  go_wp2_with fail
  go_loopw [5, 8] (fun _ y wr => ∃ i : Nat, y = .int .i64 i ∧ i ≤ n ∧ Off [] w wr ∧ Hid (∀ (j : Nat) x, j < i → t[j]? = some x → bareN x = true)) (fun _ y _ => n - (intOf y).toNat)
  case atStart => exact ⟨0, rfl, by omega, Off.refl _ _, Lib.hid (fun j f h => absurd h (Nat.not_lt_zero _))⟩
  case round =>
    obtain ⟨i, rfl, hi, ho, HLOW⟩ := hrel
    by_cases hlt : i < n
    · have hil : i < t.length := by rw [HN.out]; exact hlt
      have hx := List.getElem?_eq_getElem hil; obtain ⟨a, rfl, hat, hab⟩ := (HR.out.off ho).get i hil; have HX := Lib.hid hx; have HM := Lib.hid (List.getElem_mem hil); generalize t[i] = x at hat HX HM; have c0 := hat.path; have c1 := hat.kind; have c2 := hat.data; have c3 := hat.mode; have HC := Lib.hid (fun (b : Bool) (hb : (!bareN x) = b) => oddN_any x wr (HF.out x HM.out) b hb)
      clear hat hx hil
      cases hd : bareN x
      · have HC2 := Lib.hid (HC.out true (by rw [hd]; rfl))
        have HD := Lib.hid hd; clear HC hd
        go_wp2_with fail
        refine HC2.out.mono ?_
        rintro e w2 ⟨rfl, ho2⟩; have ho := ho.trans_nil ho2; clear ho2 HC2
        go_wp2_with fail
        go_ret
        refine ⟨i, rfl, ⟨fun _ => ?_, fun _ => by omega⟩, ho⟩
        rw [List.all_eq_false]; exact ⟨x, List.mem_of_getElem? HX.out, by rw [HD.out]; decide⟩
      have HC2 := Lib.hid (HC.out false (by rw [hd]; rfl)); have HD := Lib.hid hd; clear HC hd
      go_wp2_with fail
      refine HC2.out.mono ?_
      rintro e w2 ⟨rfl, ho2⟩; have ho := ho.trans_nil ho2; clear ho2 HC2; clear c0 c1 c2 c3
      go_wp2_with fail
      refine ⟨⟨i + 1, by congr 1, by omega, ho, Lib.hid (fun j y hj hy => ?_)⟩, by simp only [intOf]; omega⟩
      rcases Nat.lt_or_ge j i with h | h
      · exact HLOW.out j y h hy
      obtain rfl : j = i := by omega
      rw [HX.out] at hy
      cases hy
      exact HD.out
    obtain rfl : i = n := by omega
    have HE := Lib.hid (show t.all bareN = true from List.all_eq_true.2 fun x hx => by
      obtain ⟨j, hj, rfl⟩ := List.getElem_of_mem hx; exact HLOW.out j _ (by rw [← HN.out]; exact hj) (List.getElem?_eq_getElem hj))
    go_wp2_with fail
    go_ret
    exact ⟨-1, rfl, ⟨fun h => absurd h (by decide), fun h => by rw [HE.out] at h; cases h⟩, ho⟩
set_option maxRecDepth 100000 in
theorem hasN_any (tp : Option Addr) (t : List Node) (n c : Nat) (w : World) (hR : Row w tp t) (hn : t.length = n) (hb : n ≤ 10000000000000) (hF : ∀ x ∈ t, x.data.size ≤ maxLen) (b : Bool) (hbb : (!t.all bareN) = b) :
    Calls Tryz.prog 176 #[.slice tp n c, .func (.func 174) #[] #[]] w fun e w' => e = .returned (.bool b) ∧ Off [] w w' := by
  have HC := Lib.hid (ixN_any tp t n c w hR hn hb hF); clear hR hn hF
  go_enter Tryz.func176, Tryz.ntmps176
  go_wp2_with fail
  refine HC.out.mono ?_
  rintro e w1 ⟨v, rfl, hv, ho⟩; have hd : decide (0 ≤ v) = b := by
    rw [← hbb]
    cases ha : t.all bareN
    · exact decide_eq_true (hv.2 ha)
    exact decide_eq_false (fun h => by have := hv.1 h; rw [ha] at this; cases this)
  have HD := Lib.hid hd; clear hv hbb
  go_wp2_with fail
  go_ret
  exact ⟨by first | rfl | rw [← HD.out] | (rw [← HD.out]; rfl), ho⟩
set_option maxRecDepth 100000 in
theorem oddS_any (s : Int × Int × Int) (w : World) (b : Bool) (hb : (!stmOk s) = b) :
    Calls Tryz.prog 123 #[.agg #[.int .i64 s.1, .int .i64 s.2.1, .int .i64 s.2.2]] w fun e w' => e = .returned (.bool b) ∧ Off [] w w' := by
  obtain ⟨x, y, z⟩ := s; unfold stmOk at hb; dsimp only at hb ⊢
  by_cases hx : 0 ≤ x
  · have gx : ¬ x < 0 := by omega
    by_cases hy : 0 ≤ y
    · have gy : ¬ y < 0 := by omega
      by_cases hz : 0 ≤ z
      · have gz : ¬ z < 0 := by omega
        have hbb : b = false := by rw [← hb]; simp [hx, hy, hz]
        subst hbb; clear hb
        go_enter Tryz.func123, Tryz.ntmps123
        go_wp2_with fail
        go_ret
        exact ⟨rfl, (Off.refl _ _).alloc _⟩
      have gz : z < 0 := by omega
      have hbb : b = true := by rw [← hb]; simp [hx, hy, hz]
      subst hbb; clear hb
      go_enter Tryz.func123, Tryz.ntmps123
      go_wp2_with fail
      go_ret
      exact ⟨rfl, (Off.refl _ _).alloc _⟩
    have gy : y < 0 := by omega
    have hbb : b = true := by rw [← hb]; simp [hx, hy]
    subst hbb; clear hb
    go_enter Tryz.func123, Tryz.ntmps123
    go_wp2_with fail
    go_ret
    exact ⟨rfl, (Off.refl _ _).alloc _⟩
  have gx : x < 0 := by omega
  have hbb : b = true := by rw [← hb]; simp [hx]
  subst hbb; clear hb
  go_enter Tryz.func123, Tryz.ntmps123
  go_wp2_with fail
  go_ret
  exact ⟨rfl, (Off.refl _ _).alloc _⟩
set_option maxRecDepth 100000 in
set_option maxHeartbeats 4000000 in
theorem ixS_any (tp : Option Addr) (t : List (Int × Int × Int)) (n c : Nat) (w : World) (hR : SRow3 w tp t) (hn : t.length = n) (hb : n ≤ 10000000000000) :
    Calls Tryz.prog 177 #[.slice tp n c, .func (.func 123) #[] #[]] w fun e w' => ∃ v : Int, e = .returned (.int .i64 v) ∧ (0 ≤ v ↔ t.all stmOk = false) ∧ Off [] w w' := by
  have HN := Lib.hid hn; have HR := Lib.hid hR; have HF := Lib.hid (trivial); clear hn hR
  go_enter Tryz.func177, Tryz.ntmps177
  go_wp2_with fail
  go_loopw [5, 8] (fun _ y wr => ∃ i : Nat, y = .int .i64 i ∧ i ≤ n ∧ Off [] w wr ∧ Hid (∀ (j : Nat) x, j < i → t[j]? = some x → stmOk x = true)) (fun _ y _ => n - (intOf y).toNat)
  case atStart => exact ⟨0, rfl, by omega, Off.refl _ _, Lib.hid (fun j f h => absurd h (Nat.not_lt_zero _))⟩
  case round =>
    obtain ⟨i, rfl, hi, ho, HLOW⟩ := hrel
    by_cases hlt : i < n
    · have hil : i < t.length := by rw [HN.out]; exact hlt
      have hx := List.getElem?_eq_getElem hil; obtain ⟨a, rfl, hat, hab⟩ := (HR.out.off ho).get i hil; have HX := Lib.hid hx; have HM := Lib.hid (List.getElem_mem hil); generalize t[i] = x at hat HX HM; have c0 := hat.i0; have c1 := hat.i1; have c2 := hat.i2; have HC := Lib.hid (fun (b : Bool) (hb : (!stmOk x) = b) => oddS_any x wr b hb); clear hat hx hil
      cases hd : stmOk x
      · have HC2 := Lib.hid (HC.out true (by rw [hd]; rfl))
        have HD := Lib.hid hd; clear HC hd
        go_wp2_with fail
        refine HC2.out.mono ?_
        rintro e w2 ⟨rfl, ho2⟩; have ho := ho.trans_nil ho2; clear ho2 HC2
        go_wp2_with fail
        go_ret
        refine ⟨i, rfl, ⟨fun _ => ?_, fun _ => by omega⟩, ho⟩
        rw [List.all_eq_false]; exact ⟨x, List.mem_of_getElem? HX.out, by rw [HD.out]; decide⟩
      have HC2 := Lib.hid (HC.out false (by rw [hd]; rfl)); have HD := Lib.hid hd; clear HC hd
      go_wp2_with fail
      refine HC2.out.mono ?_
      rintro e w2 ⟨rfl, ho2⟩; have ho := ho.trans_nil ho2; clear ho2 HC2; clear c0 c1 c2
      go_wp2_with fail
      refine ⟨⟨i + 1, by congr 1, by omega, ho, Lib.hid (fun j y hj hy => ?_)⟩, by simp only [intOf]; omega⟩
      rcases Nat.lt_or_ge j i with h | h
      · exact HLOW.out j y h hy
      obtain rfl : j = i := by omega
      rw [HX.out] at hy
      cases hy
      exact HD.out
    obtain rfl : i = n := by omega
    have HE := Lib.hid (show t.all stmOk = true from List.all_eq_true.2 fun x hx => by
      obtain ⟨j, hj, rfl⟩ := List.getElem_of_mem hx; exact HLOW.out j _ (by rw [← HN.out]; exact hj) (List.getElem?_eq_getElem hj))
    go_wp2_with fail
    go_ret
    exact ⟨-1, rfl, ⟨fun h => absurd h (by decide), fun h => by rw [HE.out] at h; cases h⟩, ho⟩
set_option maxRecDepth 100000 in
theorem hasS_any (tp : Option Addr) (t : List (Int × Int × Int)) (n c : Nat) (w : World) (hR : SRow3 w tp t) (hn : t.length = n) (hb : n ≤ 10000000000000) (b : Bool) (hbb : (!t.all stmOk) = b) :
    Calls Tryz.prog 125 #[.slice tp n c, .func (.func 123) #[] #[]] w fun e w' => e = .returned (.bool b) ∧ Off [] w w' := by
  have HC := Lib.hid (ixS_any tp t n c w hR hn hb); clear hR hn
  go_enter Tryz.func125, Tryz.ntmps125
  go_wp2_with fail
  refine HC.out.mono ?_
  rintro e w1 ⟨v, rfl, hv, ho⟩; have hd : decide (0 ≤ v) = b := by
    rw [← hbb]
    cases ha : t.all stmOk
    · exact decide_eq_true (hv.2 ha)
    exact decide_eq_false (fun h => by have := hv.1 h; rw [ha] at this; cases this)
  have HD := Lib.hid hd; clear hv hbb
  go_wp2_with fail
  go_ret
  exact ⟨by first | rfl | rw [← HD.out] | (rw [← HD.out]; rfl), ho⟩
set_option maxRecDepth 100000 in
theorem isbare_any (tp : Option Addr) (t : List Node) (n c : Nat) (w : World) (hR : Row w tp t) (hn : t.length = n) (hcap : n ≤ c) (hb : n ≤ 10000000000000) (hF : Fits t) (hT : Tabs w) (b : Bool) (hbb : bareV t = b) :
    Calls Tryz.prog 124 #[.slice tp n c] w fun e w' => e = .returned (.bool b) ∧ Off [] w w' := by
  have HC := Lib.hid (check_any tp t n c w hR hn hcap (by unfold maxLen; omega) hF hT); have HH := Lib.hid (fun (W : World) (ho : Off [] w W) (v : Bool) (hv : (!t.all bareN) = v) => hasN_any tp t n c W (hR.off ho) hn hb (fun x hx => (hF x hx).2) v hv); unfold bareV at hbb; unfold chkV at HC; clear hR hn hcap hF hT
  cases hok : okTree t
  · rw [hok] at hbb
    rw [hok] at HC; have hbf : b = false := by rw [← hbb]; rfl
    subst hbf; clear hbb hok
    go_enter Tryz.func124, Tryz.ntmps124
    go_wp2_with fail
    refine HC.out.mono ?_
    rintro e w1 ⟨rfl, ho⟩
    go_wp2_with fail
    go_ret
    exact ⟨rfl, ho⟩
  rw [hok] at hbb; rw [hok] at HC; have hbf : b = t.all bareN := by rw [← hbb]; rfl
  subst hbf; clear hbb hok
  cases ha : t.all bareN
  all_goals
    go_enter Tryz.func124, Tryz.ntmps124
    go_wp2_with fail
    refine HC.out.mono ?_
    rintro e w1 ⟨rfl, ho⟩; have HO := Lib.hid ho; have H1 := Lib.hid (HH.out w1 ho _ (by rw [ha])); clear ho
    go_wp2_with fail
    refine H1.out.mono ?_
    rintro e w2 ⟨rfl, ho2⟩; have HO2 := Lib.hid (HO.out.trans_nil ho2); clear ho2
    go_wp2_with fail
    go_ret
    exact ⟨rfl, HO2.out⟩
end
section
open Go.RowKit Go.Op
def NumGot (w : World) (n : Nat) (r : Str) (e : Ending) (w' : World) : Prop := e = .returned (.tuple #[.int .i64 n, .string (bs r), .int .i64 0]) ∧ Off [] w w'
theorem drop_head {s : Str} {i : Nat} {c : UInt8} {t : Str} (h : s.drop i = c :: t) : ∃ hi : i < s.length, s[i] = c ∧ s.drop (i + 1) = t := by
  have hi : i < s.length := by
    rcases Nat.lt_or_ge i s.length with h1 | h1
    · exact h1
    rw [List.drop_eq_nil_of_le h1] at h; cases h
  rw [List.drop_eq_getElem_cons hi] at h; injection h with h1 h2
  exact ⟨hi, h1, h2⟩
theorem i64_or_nat (a b : Nat) (ha : a < 9223372036854775808) (hb : b < 9223372036854775808) : bits .or .i64 (a : Int) (b : Int) = ((a ||| b : Nat) : Int) := by
  have hx : a ||| b < 2 ^ 63 := Nat.or_lt_two_pow (by omega) (by omega)
  show IntKind.i64.wrap ((BitVec.ofInt 64 (a : Int) ||| BitVec.ofInt 64 (b : Int)).toNat : Int) = _
  rw [BitVec.toNat_or, ofInt_u64 a (by omega), ofInt_u64 b (by omega), IntWalk.i64_in _ (by omega)]
theorem numA : ∀ c : Fin 256, wrap64 (bits BinOp.and IntKind.u8 ((c.val : Nat) : Int) 127) = ((c.val % 128 : Nat) : Int) := by decide +kernel
theorem numAt (c : UInt8) {i acc : Nat} (hi : i ≤ 8) (ha : acc < 128 ^ i) : bits BinOp.or IntKind.i64 (acc : Int) (wrap64 (wrap64 (bits BinOp.and IntKind.u8 (c.toNat : Int) 127) * 2 ^ (7 * i))) = ((acc + c.toNat % 128 * 128 ^ i : Nat) : Int) := by
  have e : (128 : Nat) ^ i = 2 ^ (7 * i) := by rw [Nat.pow_mul]
  have h8 : (128 : Nat) ^ i ≤ 128 ^ 8 := Nat.pow_le_pow_right (by omega) hi
  have h9 : (128 : Nat) ^ 8 = 72057594037927936 := by decide
  have hm : c.toNat % 128 * 128 ^ i ≤ 127 * 128 ^ i := Nat.mul_le_mul_right _ (by omega)
  have hcast : ((c.toNat % 128 : Nat) : Int) * 2 ^ (7 * i) = ((c.toNat % 128 * 128 ^ i : Nat) : Int) := by
    rw [e]; push_cast; rfl
  rw [numA ⟨c.toNat, c.toNat_lt⟩]; simp only []; rw [hcast]; have hw : wrap64 ((c.toNat % 128 * 128 ^ i : Nat) : Int) = ((c.toNat % 128 * 128 ^ i : Nat) : Int) := IntWalk.wrap64_in _ (by generalize c.toNat % 128 * 128 ^ i = z at hm; omega)
  rw [hw, i64_or_nat _ _ (by omega) (by omega), Pl.Mid.or_ _ ha]
set_option maxRecDepth 100000 in
set_option maxHeartbeats 4000000 in
theorem number_any (g n : Nat) (s : ByteArray) (r : Str) (f : Value) (w : World) (hn : n < 9223372036854775808) (hs : str s = Pl.num n ++ r) (hs2 : s.size < 1099511627776)
   (hc : ∀ i, w.cell? ⟨g, i, none⟩ = (#[.string s, f] : Array Value)[i]?) :
    Calls Tryz.prog 305 #[.pointer (some ⟨g, 0, none⟩)] w (NumGot w n r) := by
  have c0 : w.cell? ⟨g, 0, none⟩ = some (.string s) := hc 0
  have HS := Lib.hid hs; have HN := Lib.hid hn; clear hc hn hs
  go_enter Tryz.func305, Tryz.ntmps305
  go_wp2_with fail
  go_loop [5, 13] (fun a x => ∃ i k acc : Nat, x = .int .i64 i ∧ a = .int .i64 acc ∧ i ≤ 8 ∧ i < s.size ∧ Hid (Pl.Mid n i k acc ∧ (str s).drop i = Pl.num k ++ r)) (fun _ x => 9 - (intOf x).toNat)
  case atStart =>
    refine ⟨0, n, 0, rfl, rfl, by omega, ?_, Lib.hid ⟨Pl.Mid.start n, HS.out⟩⟩
    have := Pl.num_pos n; have h2 := congrArg List.length HS.out; rw [str_size, List.length_append] at h2; omega
  case round =>
    obtain ⟨i, k, acc, rfl, rfl, hi8, his, HM⟩ := hrel; have hi9 : ((i : Int) == 9) = false := beq_eq_false_iff_ne.2 (by omega)
    obtain ⟨c, t, hct⟩ : ∃ c t, Pl.num k ++ r = c :: t := by
      cases h : Pl.num k ++ r with
      | nil => have := Pl.num_pos k; rw [List.append_eq_nil_iff] at h; rw [h.1] at this; simp at this
      | cons c t => exact ⟨c, t, rfl⟩
    obtain ⟨hlt, hce, hdr⟩ := drop_head (HM.out.2.trans hct); have hci : s[i]'his = c := hce
    by_cases hk : k < 128
    · have hc2 : c = UInt8.ofNat k ∧ t = r := by
        rw [Pl.num_small hk] at hct; injection hct with h1 h2
        exact ⟨h1.symm, h2.symm⟩
      have hcn : c.toNat = k := by rw [hc2.1]; simp; omega
      have hext : s.extract (i + 1) s.size = bs r := str_inj (by
        rw [str_extract, str_bs, ← str_size, List.take_of_length_le (by rw [List.length_drop]; omega), hdr, hc2.2])
      have hfin : bits BinOp.or IntKind.i64 (acc : Int) (wrap64 (wrap64 (bits BinOp.and IntKind.u8 (c.toNat : Int) 127) * 2 ^ (7 * i))) = (n : Int) := by
        rw [numAt c hi8 HM.out.1.lo, hcn, Nat.mod_eq_of_lt hk, ← HM.out.1.sum]
      have HF := Lib.hid hfin; have HE := Lib.hid hext
      by_cases hz : k = 0
      · have hi0 : i = 0 := by
          rcases Nat.eq_zero_or_pos i with h | h
          · exact h
          have := HM.out.1.pos h; omega
        have hcz : c.toNat = 0 := by omega
        have hacc : acc = 0 := by have := HM.out.1.lo; rw [hi0] at this; simpa using this
        have hn0 : n = 0 := by have := HM.out.1.sum; rw [hz, hacc] at this; simpa using this
        clear hk hc2 hcn hce hct hlt hdr hfin hext HM HF; subst hz; subst hi0; subst hacc; subst hn0
        go_wp2_with fail
        go_quiet (fail)
        go_wp2_with fail
        go_ret3
        refine ⟨?_, (Off.refl _ _).drewN _⟩
        show Ending.returned (.tuple #[.int .i64 (bits BinOp.or IntKind.i64 ((0 : Nat) : Int) (wrap64 (wrap64 (bits BinOp.and IntKind.u8 0 127)))), .string (s.extract 1 s.size), .int .i64 0]) = _
        rw [show bits BinOp.or IntKind.i64 ((0 : Nat) : Int) (wrap64 (wrap64 (bits BinOp.and IntKind.u8 0 127))) = ((0 : Nat) : Int) by decide +kernel, HE.out]
      have hcz : ((c.toNat : Int) == 0) = false := beq_eq_false_iff_ne.2 (by omega)
      have hc8 : (c.toNat : Int) < 128 := by omega
      clear hk hc2 hcn hce hct hlt hdr hfin hext HM hz
      go_wp2_with fail
      go_quiet (fail)
      go_wp2_with fail
      go_ret3
      refine ⟨?_, (Off.refl _ _).drewN _⟩
      show Ending.returned (.tuple #[.int .i64 (bits BinOp.or IntKind.i64 (acc : Int) (wrap64 (wrap64 (bits BinOp.and IntKind.u8 (c.toNat : Int) 127) * 2 ^ (7 * i)))), .string (s.extract (i + 1) s.size), .int .i64 0]) = _
      rw [HF.out, HE.out]
    have hc2 : c = UInt8.ofNat (128 + k % 128) ∧ t = Pl.num (k / 128) ++ r := by
      rw [Pl.num_big (by omega)] at hct; injection hct with h1 h2
      exact ⟨h1.symm, h2.symm⟩
    have hcn : c.toNat = 128 + k % 128 := by rw [hc2.1]; simp; omega
    have hfin : bits BinOp.or IntKind.i64 (acc : Int) (wrap64 (wrap64 (bits BinOp.and IntKind.u8 (c.toNat : Int) 127) * 2 ^ (7 * i))) = ((acc + k % 128 * 128 ^ i : Nat) : Int) := by
      rw [numAt c hi8 HM.out.1.lo, hcn, show (128 + k % 128) % 128 = k % 128 by omega]
    have HF := Lib.hid hfin; have HM2 := Lib.hid (And.intro (HM.out.1.next (by omega)) (hdr.trans hc2.2)); have hil := HM2.out.1.lt HN.out; have hls : i + 1 < s.size := by
      have h1 := congrArg List.length HM2.out.2; have h2 := Pl.num_pos (k / 128); rw [List.length_drop, List.length_append, str_size] at h1; omega
    have hc8 : ¬ (c.toNat : Int) < 128 := by omega
    have HK := Lib.hid hcn; clear hk hc2 hce hct hlt hdr hfin HM hcn
    go_wp2_with fail
    exact ⟨⟨i + 1, k / 128, _, by congr 1, by rw [HF.out], by omega, hls, HM2⟩, by simp only [intOf]; omega⟩
end
section
open Go.RowKit Go.Op
def tabL (k : Nat) : List Int := (List.range 16).map fun j => if j < k then ((Crc.tab j).toNat : Int) else 0
def tabC (k : Nat) : Array Value := ((tabL k).map (Value.int .u32)).toArray
theorem tabC_get (k j : Nat) (hj : j < 16) : (tabC k)[j]? = some (.int .u32 (if j < k then ((Crc.tab j).toNat : Int) else 0)) := by
  unfold tabC tabL; rw [List.getElem?_toArray, List.getElem?_map, List.getElem?_map, List.getElem?_range hj]
  rfl
theorem tabC_zero : tabC 0 = #[.int .u32 0, .int .u32 0, .int .u32 0, .int .u32 0, .int .u32 0, .int .u32 0, .int .u32 0, .int .u32 0, .int .u32 0, .int .u32 0, .int .u32 0, .int .u32 0, .int .u32 0, .int .u32 0, .int .u32 0, .int .u32 0] := by rfl
theorem tabC_set (k : Nat) (hk : k < 16) : (tabC k).setIfInBounds k (.int .u32 ((Crc.tab k).toNat : Int)) = tabC (k + 1) := by
  apply Array.ext
  · simp [tabC, tabL]
  intro j h1 h2
  have hj : j < 16 := by simpa [tabC, tabL] using h2
  have e : ((tabC k).setIfInBounds k (.int .u32 ((Crc.tab k).toNat : Int)))[j]? = (tabC (k + 1))[j]? := by
    rw [tabC_get _ _ hj, Array.getElem?_setIfInBounds]
    by_cases hjk : k = j
    · subst hjk
      rw [if_pos rfl, if_pos (by simp [tabC, tabL]; omega), if_pos (by omega)]
    rw [if_neg hjk, tabC_get _ _ hj]
    by_cases h3 : j < k
    · rw [if_pos h3, if_pos (by omega)]
    rw [if_neg h3, if_neg (by omega)]
  rw [Array.getElem?_eq_getElem h1, Array.getElem?_eq_getElem h2] at e; exact Option.some.inj e
def itB : Nat → BitVec 32 → BitVec 32
  | 0, v => v
  | m + 1, v => Crc.bit1 (itB m v)
theorem itB_four (v : BitVec 32) : itB 4 v = Crc.bits4 v := rfl
theorem bit_int (v : BitVec 32) : bits BinOp.xor IntKind.u32 ((v.toNat : Int) / 2) (bits BinOp.and IntKind.u32 3988292384 (-bits BinOp.and IntKind.u32 (v.toNat : Int) 1 % 4294967296)) = ((Crc.bit1 v).toNat : Int) := by
  have h1 : bits BinOp.and IntKind.u32 (v.toNat : Int) 1 = ((v.toNat % 2 : Nat) : Int) := by
    have := u32_and_nat v.toNat 1 v.isLt (by omega); rw [Nat.and_one_is_mod] at this; exact this
  have hlsb : v.getLsbD 0 = decide (v.toNat % 2 = 1) := by
    rw [BitVec.getLsbD, Nat.testBit_zero]
  have hsh : (v >>> 1).toNat = v.toNat / 2 := by rw [BitVec.toNat_ushiftRight, Nat.shiftRight_eq_div_pow]
  rw [h1]; unfold Crc.bit1; rw [hlsb]
  rcases Nat.mod_two_eq_zero_or_one v.toNat with h | h
  · rw [h]
    have h2 : bits BinOp.and IntKind.u32 3988292384 (-((0 : Nat) : Int) % 4294967296) = ((0 : Nat) : Int) := by decide
    rw [h2]; have h3 := u32_xor_nat (v.toNat / 2) 0 (by have := v.isLt; omega) (by omega); rw [Nat.xor_zero] at h3; simp only [Nat.zero_ne_one, decide_false, Bool.false_eq_true, if_false]; rw [hsh, ← h3]
    congr 1
  rw [h]; have h2 : bits BinOp.and IntKind.u32 3988292384 (-((1 : Nat) : Int) % 4294967296) = ((3988292384 : Nat) : Int) := by decide
  rw [h2]; have h3 := u32_xor_nat (v.toNat / 2) 3988292384 (by have := v.isLt; omega) (by omega); simp only [decide_true, if_true]; rw [BitVec.toNat_xor, hsh]; exact h3
theorem nib_int (v : BitVec 32) : bits BinOp.xor IntKind.u32 ((v.toNat : Int) / 16) ((Crc.tab (v.toNat % 16)).toNat : Int) = ((Crc.nib v).toNat : Int) := by
  have h3 := u32_xor_nat (v.toNat / 16) (Crc.tab (v.toNat % 16)).toNat (by have := v.isLt; omega) (BitVec.isLt _); unfold Crc.nib; rw [BitVec.toNat_xor, BitVec.toNat_ushiftRight, Nat.shiftRight_eq_div_pow]; exact h3
theorem and15_int (v : BitVec 32) : bits BinOp.and IntKind.u32 (v.toNat : Int) 15 = ((v.toNat % 16 : Nat) : Int) := by
  have := u32_and_nat v.toNat 15 v.isLt (by omega); rw [show (15 : Nat) = 2 ^ 4 - 1 from rfl, Nat.and_two_pow_sub_one_eq_mod] at this; exact this
def tabI (x : Int) : Int := ((Crc.tab (bits BinOp.and IntKind.u32 x 15).toNat).toNat : Int)
theorem and15_range (x : Int) : 0 ≤ bits BinOp.and IntKind.u32 x 15 ∧ bits BinOp.and IntKind.u32 x 15 < 16 := by
  have e : bits BinOp.and IntKind.u32 x 15 = IntKind.u32.wrap ((BitVec.ofInt 32 x &&& BitVec.ofInt 32 15).toNat : Int) := rfl
  have h : (BitVec.ofInt 32 x &&& BitVec.ofInt 32 15).toNat < 16 := by
    rw [BitVec.toNat_and]; have : (BitVec.ofInt 32 15).toNat = 15 := by decide
    rw [this]; exact Nat.lt_of_le_of_lt Nat.and_le_right (by omega)
  rw [e, IntKind.wrap_u32']; omega
theorem nib_int2 (v : BitVec 32) : bits BinOp.xor IntKind.u32 ((v.toNat : Int) / 16) (tabI v.toNat) = ((Crc.nib v).toNat : Int) := by
  unfold tabI; rw [and15_int]; exact nib_int v
theorem byte_int (v : BitVec 32) (b : UInt8) : bits BinOp.xor IntKind.u32 (v.toNat : Int) ((b.toNat : Int) % 4294967296) = ((v ^^^ BitVec.ofNat 32 b.toNat).toNat : Int) := by
  have h3 := u32_xor_nat v.toNat b.toNat v.isLt (by have := b.toNat_lt; omega); rw [show ((b.toNat : Int) % 4294967296) = (b.toNat : Int) by have := b.toNat_lt; omega, h3, BitVec.toNat_xor, BitVec.toNat_ofNat, Nat.mod_eq_of_lt (by have := b.toNat_lt; omega)]
theorem not_int (v : BitVec 32) : bits BinOp.xor IntKind.u32 IntKind.u32.max (v.toNat : Int) = ((~~~ v).toNat : Int) := by
  have h3 := u32_xor_nat 4294967295 v.toNat (by omega) v.isLt; have e : (4294967295 : Nat) ^^^ v.toNat = (~~~ v).toNat := by
    have := congrArg BitVec.toNat (BitVec.not_def (x := v)); rw [this, BitVec.toNat_xor]
    rfl
  rw [← e, ← h3]
  rfl
set_option maxRecDepth 100000 in
set_option maxHeartbeats 4000000 in
theorem crc_any (s : ByteArray) (w : World) (hs : s.size < 1099511627776) : Calls Tryz.prog 201 #[.string s] w fun e w' => e = .returned (.int .u32 ((Crc.crc (str s)).toNat : Int)) ∧ Off [] w w' := by
  go_enter Tryz.func201, Tryz.ntmps201
  go_wp2_with fail
  go_loopw [8] (fun i wr => ∃ k : Nat, k ≤ 16 ∧ i = .int .i64 k ∧ Hid (Off [] w wr ∧ Blk wr w.heap.size 303 (tabC k))) (fun i _ => 16 - (intOf i).toNat)
  case atStart =>
    exact ⟨0, by omega, rfl, Lib.hid ⟨(Off.refl _ _).alloc _, by rw [tabC_zero]; exact Blk.new _ _ _⟩⟩
  case round =>
    obtain ⟨k, hk, rfl, HT⟩ := hrel; have hfB := HT.out.2.frozen; have hlB := HT.out.2.lt
    by_cases hlt : k < 16
    · have hcB : wr.cell? ⟨w.heap.size, k, none⟩ = some (.int .u32 0) := (HT.out.2.cell k).trans (by rw [tabC_get _ _ hlt, if_neg (by omega)])
      go_wp2_with fail
      go_loop [5, 13] (fun a j => ∃ m : Nat, m ≤ 4 ∧ j = .int .i64 m ∧ Hid (a = .int .u32 ((itB m (BitVec.ofNat 32 k)).toNat : Int))) (fun _ j => 4 - (intOf j).toNat)
      case atStart => exact ⟨0, by omega, rfl, Lib.hid (by show _ = Value.int .u32 ((BitVec.ofNat 32 k).toNat : Int); rw [BitVec.toNat_ofNat, Nat.mod_eq_of_lt (by omega)])⟩
      case round =>
        obtain ⟨m, hm, rfl, HA⟩ := hrel
        by_cases hm4 : m < 4
        · obtain ⟨v, hv⟩ : ∃ v, itB m (BitVec.ofNat 32 k) = v := ⟨_, rfl⟩
          have ha := HA.out; rw [hv] at ha; have HV := Lib.hid hv; have HB := Lib.hid (bit_int v); subst ha; clear hv
          go_wp2_with fail
          go_round
          case rel => exact ⟨m + 1, by omega, by go_num, Lib.hid (by show _ = Value.int .u32 ((Crc.bit1 (itB m (BitVec.ofNat 32 k))).toNat : Int); rw [HV.out, ← HB.out])⟩
          case measure => simp [intOf]; omega
        have hm4 : m = 4 := by omega
        subst hm4; have ha := HA.out; rw [itB_four] at ha; have e : Crc.bits4 (BitVec.ofNat 32 k) = Crc.tab k := rfl
        rw [e] at ha; subst ha
        go_wp2_with fail
        go_roundw
        case rel =>
          refine ⟨k + 1, by omega, by go_num, Lib.hid ⟨HT.out.1.setCell (.inl (Nat.le_refl _)) _, ?_⟩⟩
          rw [← tabC_set k hlt]; exact HT.out.2.set_ k _
        case measure => simp [intOf]; omega
    obtain rfl : k = 16 := by omega
    have hcell : ∀ x : Int, wr.cell? ⟨w.heap.size, (bits BinOp.and IntKind.u32 x 15).toNat, none⟩ = some (.int .u32 (tabI x)) := fun x => by
      have hr := and15_range x; rw [HT.out.2.cell, tabC_get _ _ (by omega), if_pos (by omega)]
      rfl
    have hlo : ∀ x : Int, 0 ≤ bits BinOp.and IntKind.u32 x 15 := fun x => (and15_range x).1
    have hhi : ∀ x : Int, bits BinOp.and IntKind.u32 x 15 < 16 := fun x => (and15_range x).2
    clear hfB
    go_wp2_with fail
    go_loop [6, 29] (fun v i => ∃ m : Nat, m ≤ s.size ∧ i = .int .i64 m ∧ Hid (v = .int .u32 ((Crc.run (~~~ 0#32) ((str s).take m)).toNat : Int))) (fun _ i => s.size - (intOf i).toNat)
    case atStart => exact ⟨0, by omega, rfl, Lib.hid rfl⟩
    case round =>
      obtain ⟨m, hm, rfl, HV⟩ := hrel
      by_cases hms : m < s.size
      · obtain ⟨v, hv⟩ : ∃ v, Crc.run (~~~ 0#32) ((str s).take m) = v := ⟨_, rfl⟩
        have ha := HV.out; rw [hv] at ha; subst ha; obtain ⟨b, hb⟩ : ∃ b, s[m]'hms = b := ⟨_, rfl⟩
        have hnext : Crc.run (~~~ 0#32) ((str s).take (m + 1)) = Crc.nib (Crc.nib (v ^^^ BitVec.ofNat 32 b.toNat)) := by
          have e : (str s)[m]? = some b := by
            have hl : m < (str s).length := by rw [str_size]; exact hms
            rw [List.getElem?_eq_getElem hl, ← hb]; rfl
          rw [List.take_add_one, e, Crc.run_append, hv]
          rfl
        have hfin : bits BinOp.xor IntKind.u32 (bits BinOp.xor IntKind.u32 (bits BinOp.xor IntKind.u32 (v.toNat : Int) ((b.toNat : Int) % 4294967296) / 16) (tabI (bits BinOp.xor IntKind.u32 (v.toNat : Int) ((b.toNat : Int) % 4294967296))) / 16) (tabI (bits BinOp.xor IntKind.u32 (bits BinOp.xor IntKind.u32 (v.toNat : Int) ((b.toNat : Int) % 4294967296) / 16) (tabI (bits BinOp.xor IntKind.u32 (v.toNat : Int) ((b.toNat : Int) % 4294967296))))) = ((Crc.run (~~~ 0#32) ((str s).take (m + 1))).toNat : Int) := by
          rw [hnext, byte_int, nib_int2, nib_int2]
        have HF := Lib.hid hfin; clear hnext hv hfin
        go_wp2_with fail
        go_round
        case rel => exact ⟨m + 1, by omega, by go_num, Lib.hid (by rw [← HF.out])⟩
        case measure => simp [intOf]; omega
      obtain rfl : m = s.size := by omega
      have ha := HV.out; rw [List.take_of_length_le (by rw [str_size]; exact Nat.le_refl _)] at ha; subst ha
      go_wp2_with fail
      go_ret
      refine ⟨?_, HT.out.1⟩
      show Ending.returned (.int .u32 (bits BinOp.xor IntKind.u32 IntKind.u32.max ((Crc.run (4294967295#32) (str s)).toNat : Int))) = _
      rw [not_int]
      rfl
end
section
open PDisk
def arcN : ByteArray := ⟨#[46, 104, 97, 119, 115, 101, 114, 47, 97, 114, 99, 104, 105, 118, 101]⟩
def nxtN : ByteArray := ⟨#[46, 104, 97, 119, 115, 101, 114, 47, 110, 101, 120, 116]⟩
def nxtB : ByteArray := ⟨#[46, 104, 97, 119, 115, 101, 114, 47, 110, 101, 120, 116, 126]⟩
theorem okArcN : okPath (str arcN) = true := by decide +kernel
theorem okNxtN : okPath (str nxtN) = true := by decide +kernel
theorem okNxtB : okPath (str nxtB) = true := by decide +kernel
theorem parArcN : bs (parent (str arcN)) = ownB := by decide +kernel
theorem parNxtN : bs (parent (str nxtN)) = ownB := by decide +kernel
theorem parNxtB : bs (parent (str nxtB)) = ownB := by decide +kernel
theorem besNxt : besideP nxtN = nxtB := by decide +kernel
theorem par_in {p : ByteArray} {D : PDisk} (hp : bs (parent (str p)) = ownB) (h : D.dir ownB = true) : D.parentE p = (false, 62) := by
  unfold PDisk.parentE; rw [hp, h]
  rfl
structure HostQ (D : PDisk) (o : Option ByteArray) : Prop where
  own : ∃ n, D.at_ ownB = some n ∧ n.node.kind = 2
  nb : hasN D.names nxtB = false
  nn : hasN D.names nxtN = false
  arc : (o = none ∧ hasN D.names arcN = false) ∨ ∃ s n, o = some s ∧ D.at_ arcN = some n ∧ n.node.kind = 1 ∧ n.node.data = s
  on : D.off = false
  fates : D.fates = []
  safe : D.safe = D.names
  later : D.later = []
  clean : Clean D
  bnd : ∀ x, lookN D.names x ≤ D.inos.length
  len : D.names.length < 990
section
variable {D E : PDisk} {o : Option ByteArray} {p q s : ByteArray}
theorem HostQ.tick (h : HostQ D o) (c p q : ByteArray) : HostQ (D.tick c p q) o := ⟨h.own, h.nb, h.nn, h.arc, h.on, h.fates, h.safe, h.later, h.clean, h.bnd, h.len⟩
theorem dirOwn {D : PDisk} (h : ∃ n, D.at_ ownB = some n ∧ n.node.kind = 2) : D.dir ownB = true := by
  obtain ⟨n, h1, h2⟩ := h; unfold PDisk.dir; rw [h1]; simp [h2]
theorem write__in (hp : okPath (str p) = true) (hr : D.parentE p = (false, 62)) (hs : s.size ≤ 65536) (hat : D.at_ p = none) (hl : D.names.length < 1000) :
    D.write_ false p s 384 = (0, (D.make ⟨⟨#[]⟩, 1, s, 384⟩ D.clock true).change (putN D.names p (D.inos.length + 1))) := by
  unfold PDisk.write_ PDisk.lay; rw [hat, no_ok hp, hr]; have h1 : (decide (65536 < s.size) || decide ((384 : Int) < 0) || decide (511 < (384 : Int))) = false := by simp; omega
  rw [h1]; have h2 : decide (1000 ≤ D.names.length) = false := decide_eq_false (by omega)
  rw [h2]
  rfl
theorem replace__in {x : Ino} (hp : okPath (str p) = true) (hq : okPath (str q) = true) (hr : D.parentE q = (false, 62)) (hne : p ≠ q) (hat : D.at_ p = some x) (hd : D.dir p = false) (hd2 : D.dir q = false) :
    D.replace_ p q = (0, D.change (delN (putN D.names q (lookN D.names p)) p)) := by
  unfold PDisk.replace_ PDisk.gone; rw [hat, no_ok hp, no_ok hq, hr, hd, hd2, decide_eq_false hne]
  rfl
theorem at_eq {D E : PDisk} {x : ByteArray} (h1 : lookN E.names x = lookN D.names x) (h2 : ∀ (i : Nat) n, D.inos[i]? = some n → E.inos[i]? = some n) (hb : lookN D.names x ≤ D.inos.length) : E.at_ x = D.at_ x := by
  unfold PDisk.at_ PDisk.inode; rw [h1]
  split
  · rfl
  rename_i h0
  have hlt : lookN D.names x - 1 < D.inos.length := by omega
  rw [h2 _ _ (List.getElem?_eq_getElem hlt), List.getElem?_eq_getElem hlt]
def fileI (s : ByteArray) (tm : Int) (d : Bool) : Ino := ⟨⟨⟨#[]⟩, 1, s, 384⟩, tm, d⟩
structure NextQ (D E : PDisk) (s : ByteArray) : Prop where
  names : E.names = nm2 D nxtN nxtB
  safe : E.safe = E.names
  later : E.later = []
  inos : ∃ tm, E.inos = D.inos ++ [fileI s tm false]
  on : E.off = false
  fates : E.fates = []
theorem HostQ.atnb (h : HostQ D o) : D.at_ nxtB = none := at_none_of h.nb
theorem HostQ.atnn (h : HostQ D o) : D.at_ nxtN = none := at_none_of h.nn
theorem save_next (h : HostQ D o) (hs : s.size ≤ 65536) : (D.save nxtN s).1 = 0 ∧ NextQ D (D.save nxtN s).2 s := by
  have hne : nxtB ≠ nxtN := by decide
  have hw : D.write nxtB s 384 = (0, ((D.tick wN nxtB ⟨#[]⟩).make ⟨⟨#[]⟩, 1, s, 384⟩ (D.tick wN nxtB ⟨#[]⟩).clock true).change (putN D.names nxtB (D.inos.length + 1))) :=
    (call_run (step_free wN nxtB ⟨#[]⟩ h.on h.fates)).trans (write__in okNxtB (par_in parNxtB (dirOwn (D := D.tick wN nxtB ⟨#[]⟩) h.own)) hs h.atnb (by have := h.len; show D.names.length < 1000; omega))
  generalize hE1 : ((D.tick wN nxtB ⟨#[]⟩).make ⟨⟨#[]⟩, 1, s, 384⟩ (D.tick wN nxtB ⟨#[]⟩).clock true).change (putN D.names nxtB (D.inos.length + 1)) = E1 at hw
  obtain ⟨tm, hi1⟩ : ∃ tm, E1.inos = D.inos ++ [fileI s tm true] := ⟨_, by rw [← hE1]; rfl⟩
  have hn1 : E1.names = nm1 D nxtB := by rw [← hE1]; rfl
  have ho1 : E1.off = false := by rw [← hE1]; exact h.on
  have hf1 : E1.fates = [] := by rw [← hE1]; exact h.fates
  clear hE1; have hl1 : lookN (nm1 D nxtB) nxtB = D.inos.length + 1 := by unfold nm1 newI; rw [lookN_putN, if_pos rfl]
  have ha1 : (E1.tick sN nxtB ⟨#[]⟩).at_ nxtB = some (fileI s tm true) := by
    show E1.at_ nxtB = _
    unfold PDisk.at_ PDisk.inode; rw [hn1, hl1, hi1]; simp
  have hy : E1.sync nxtB = (0, { E1.tick sN nxtB ⟨#[]⟩ with inos := E1.inos.set (lookN E1.names nxtB - 1) { fileI s tm true with dirty := false } }) :=
    (call_run (step_free sN nxtB ⟨#[]⟩ ho1 hf1)).trans (sync__some okNxtB ha1)
  generalize hE2 : ({ E1.tick sN nxtB ⟨#[]⟩ with inos := E1.inos.set (lookN E1.names nxtB - 1) { fileI s tm true with dirty := false } } : PDisk) = E2 at hy
  have hi2 : E2.inos = D.inos ++ [fileI s tm false] := by
    rw [← hE2]
    show E1.inos.set (lookN E1.names nxtB - 1) _ = _
    rw [hn1, hl1, hi1]; simp [fileI]
  have hn2 : E2.names = nm1 D nxtB := by rw [← hE2]; exact hn1
  have ho2 : E2.off = false := by rw [← hE2]; exact ho1
  have hf2 : E2.fates = [] := by rw [← hE2]; exact hf1
  clear hE2 ha1 hi1 hn1; have ha2 : (E2.tick rN nxtB nxtN).at_ nxtB = some (fileI s tm false) := by
    show E2.at_ nxtB = _
    unfold PDisk.at_ PDisk.inode; rw [hn2, hl1, hi2]; simp
  have hgo : ∀ (i : Nat) n, D.inos[i]? = some n → E2.inos[i]? = some n := fun i n hn => by rw [hi2, List.getElem?_append_left (List.getElem?_eq_some_iff.1 hn).1]; exact hn
  have hown2 : ∃ n, (E2.tick rN nxtB nxtN).at_ ownB = some n ∧ n.node.kind = 2 := by
    obtain ⟨n, h1, h2⟩ := h.own; refine ⟨n, ?_, h2⟩; rw [← h1]; exact at_eq (D := D) (E := E2) (by rw [hn2]; unfold nm1; rw [lookN_putN, if_neg (by decide)]) hgo (h.bnd _)
  have hnn2 : (E2.tick rN nxtB nxtN).at_ nxtN = none := at_none_of (D := E2) (by rw [hn2]; unfold nm1; rw [hasN_putN, h.nn]; decide)
  have hz : E2.replace nxtB nxtN = (0, (E2.tick rN nxtB nxtN).change (delN (putN E2.names nxtN (lookN E2.names nxtB)) nxtB)) :=
    (call_run (step_free rN nxtB nxtN ho2 hf2)).trans (replace__in okNxtB okNxtN (par_in parNxtN (dirOwn hown2)) hne ha2 (dir_file (ok_ne okNxtB) ha2 rfl) (dir_none (ok_ne okNxtN) hnn2))
  rw [hn2, hl1] at hz; have hnm : delN (putN (nm1 D nxtB) nxtN (D.inos.length + 1)) nxtB = nm2 D nxtN nxtB := rfl
  rw [hnm] at hz; generalize hE3 : (E2.tick rN nxtB nxtN).change (nm2 D nxtN nxtB) = E3 at hz
  have hi3 : E3.inos = D.inos ++ [fileI s tm false] := by rw [← hE3]; exact hi2
  have hn3 : E3.names = nm2 D nxtN nxtB := by rw [← hE3]; rfl
  have ho3 : E3.off = false := by rw [← hE3]; exact ho2
  have hf3 : E3.fates = [] := by rw [← hE3]; exact hf2
  have hfl : E3.flush = (0, (E3.tick fN ⟨#[]⟩ ⟨#[]⟩).flush_) := call_run (step_free fN ⟨#[]⟩ ⟨#[]⟩ ho3 hf3)
  have hsv : D.save nxtN s = (0, (E3.tick fN ⟨#[]⟩ ⟨#[]⟩).flush_) := by
    unfold PDisk.save; rw [besNxt]; simp only [hw, hy, hz, hfl]; simp
  rw [hsv]; exact ⟨rfl, hn3, rfl, rfl, ⟨tm, hi3⟩, ho3, hf3⟩
theorem look_nm2 (x : ByteArray) : lookN (nm2 D nxtN nxtB) x = if nxtB = x then 0 else if nxtN = x then D.inos.length + 1 else lookN D.names x := by
  unfold nm2 nm1 newI; rw [lookN_delN]
  split
  · rfl
  rename_i h1
  rw [lookN_putN]
  split
  · rfl
  rw [lookN_putN, if_neg h1]
theorem has_nm2 (x : ByteArray) : hasN (nm2 D nxtN nxtB) x = ((hasN D.names x || decide (nxtB = x) || decide (nxtN = x)) && !decide (nxtB = x)) := by
  unfold nm2 nm1; rw [hasN_delN, hasN_putN, hasN_putN]
def PDisk.turn (D : PDisk) : Int × PDisk :=
  let r := D.replace nxtN arcN
  if r.1 ≠ 0 then r else r.2.flush
structure TurnQ (D E : PDisk) (s : ByteArray) : Prop where
  names : E.names = delN (putN (nm2 D nxtN nxtB) arcN (D.inos.length + 1)) nxtN
  host : HostQ E (some s)
  old : ∀ (i : Nat) n, D.inos[i]? = some n → E.inos[i]? = some n
  inos : ∃ tm, E.inos = D.inos ++ [fileI s tm false]
theorem turn_next {E0 : PDisk} (h : HostQ D o) (k : NextQ D E0 s) (hl : E0.names.length < 980) : E0.turn.1 = 0 ∧ TurnQ D E0.turn.2 s := by
  have hne : nxtN ≠ arcN := by decide
  obtain ⟨tm, hi⟩ := k.inos; have hln : lookN (nm2 D nxtN nxtB) nxtN = D.inos.length + 1 := by rw [look_nm2, if_neg (by decide), if_pos rfl]
  have hgo : ∀ (i : Nat) n, D.inos[i]? = some n → E0.inos[i]? = some n := fun i n hn => by rw [hi, List.getElem?_append_left (List.getElem?_eq_some_iff.1 hn).1]; exact hn
  have ha : (E0.tick rN nxtN arcN).at_ nxtN = some (fileI s tm false) := by
    show E0.at_ nxtN = _
    unfold PDisk.at_ PDisk.inode; rw [k.names, hln, hi]; simp
  have hoth : ∀ x, nxtB ≠ x → nxtN ≠ x → E0.at_ x = D.at_ x := fun x h1 h2 => at_eq (by rw [k.names, look_nm2, if_neg h1, if_neg h2]) hgo (h.bnd _)
  have hown : ∃ n, (E0.tick rN nxtN arcN).at_ ownB = some n ∧ n.node.kind = 2 := by
    obtain ⟨n, h1, h2⟩ := h.own; exact ⟨n, (hoth ownB (by decide) (by decide)).trans h1, h2⟩
  have hda : (E0.tick rN nxtN arcN).dir arcN = false := by
    have e : (E0.tick rN nxtN arcN).at_ arcN = D.at_ arcN := hoth arcN (by decide) (by decide)
    rcases h.arc with ⟨_, h2⟩ | ⟨_, n, _, h2, h3, _⟩
    · exact dir_none (ok_ne okArcN) (e.trans (at_none_of h2))
    exact dir_file (ok_ne okArcN) (e.trans h2) h3
  have hz : E0.replace nxtN arcN = (0, (E0.tick rN nxtN arcN).change (delN (putN E0.names arcN (lookN E0.names nxtN)) nxtN)) :=
    (call_run (step_free rN nxtN arcN k.on k.fates)).trans (replace__in okNxtN okArcN (par_in parArcN (dirOwn hown)) hne ha (dir_file (ok_ne okNxtN) ha rfl) hda)
  rw [k.names, hln] at hz; obtain ⟨l, hll⟩ : ∃ l, delN (putN (nm2 D nxtN nxtB) arcN (D.inos.length + 1)) nxtN = l := ⟨_, rfl⟩
  rw [hll] at hz; generalize hE1 : (E0.tick rN nxtN arcN).change l = E1 at hz
  have hfl : E1.flush = (0, (E1.tick fN ⟨#[]⟩ ⟨#[]⟩).flush_) := call_run (step_free fN ⟨#[]⟩ ⟨#[]⟩ (by rw [← hE1]; exact k.on) (by rw [← hE1]; exact k.fates))
  have hsv : E0.turn = (0, (E1.tick fN ⟨#[]⟩ ⟨#[]⟩).flush_) := by
    unfold PDisk.turn; simp only [hz, hfl]; simp
  rw [hsv]; have hi1 : E1.inos = D.inos ++ [fileI s tm false] := by rw [← hE1]; exact hi
  have hn1 : E1.names = l := by rw [← hE1]; rfl
  have hlook : ∀ x, lookN l x = if nxtN = x then 0 else if arcN = x then D.inos.length + 1 else if nxtB = x then 0 else lookN D.names x := fun x => by
    rw [← hll, lookN_delN]
    split
    · rfl
    rename_i h1
    rw [lookN_putN]
    split
    · rfl
    rw [look_nm2, if_neg h1]
  have hhas : ∀ x, hasN l x = ((hasN (nm2 D nxtN nxtB) x || decide (arcN = x)) && !decide (nxtN = x)) := fun x => by rw [← hll, hasN_delN, hasN_putN]
  refine ⟨rfl, ⟨by rw [hll]; exact hn1, ?_, fun i n hn => ?_, ⟨tm, hi1⟩⟩⟩
  · refine ⟨?_, ?_, ?_, .inr ⟨s, fileI s tm false, rfl, ?_, rfl, rfl⟩, ?_, ?_, rfl, rfl, ?_, ?_, ?_⟩
    · obtain ⟨n, h1, h2⟩ := h.own
      refine ⟨n, ?_, h2⟩
      rw [← h1]; refine at_eq ?_ (fun i n hn => ?_) (h.bnd _)
      · show lookN E1.names ownB = _
        rw [hn1, hlook, if_neg (by decide), if_neg (by decide), if_neg (by decide)]
      show E1.inos[i]? = _
      rw [hi1, List.getElem?_append_left (List.getElem?_eq_some_iff.1 hn).1]; exact hn
    · show hasN E1.names nxtB = false
      rw [hn1, hhas, has_nm2]; simp
      decide
    · show hasN E1.names nxtN = false
      rw [hn1, hhas]; simp
    · show E1.at_ arcN = _
      unfold PDisk.at_ PDisk.inode; rw [hn1, hlook, if_neg hne, if_pos rfl, hi1]; simp
    · show E1.off = false
      rw [← hE1]; exact k.on
    · show E1.fates = []
      rw [← hE1]; exact k.fates
    · intro n hn
      have hn : n ∈ E1.inos := hn
      rw [hi1] at hn
      rcases List.mem_append.1 hn with hn | hn
      · exact h.clean n hn
      simp at hn; subst hn; rfl
    · intro x
      show lookN E1.names x ≤ E1.inos.length
      rw [hn1, hlook, hi1]; have := h.bnd x; simp only [List.length_append, List.length_singleton]
      split
      · omega
      split
      · omega
      split <;> omega
    show E1.names.length < 990
    rw [hn1, ← hll]; have h1 : ∀ (l : NameL) p, (delN l p).length ≤ l.length := fun l p => List.length_filter_le _ _
    have h2 : ∀ (l : NameL) p i, (putN l p i).length ≤ l.length + 1 := fun l p i => by
      unfold putN
      split
      · rw [List.length_map]; omega
      rw [List.length_append]; simp
    have h3 := h1 (putN (nm2 D nxtN nxtB) arcN (D.inos.length + 1)) nxtN; have h4 := h2 (nm2 D nxtN nxtB) arcN (D.inos.length + 1); rw [k.names] at hl; omega
  show E1.inos[i]? = _
  rw [hi1, List.getElem?_append_left (List.getElem?_eq_some_iff.1 hn).1]; exact hn
theorem nm2_len (h : HostQ D o) : (nm2 D nxtN nxtB).length ≤ D.names.length + 2 := by
  unfold nm2 nm1; have h1 : ∀ (l : NameL) p, (delN l p).length ≤ l.length := fun l p => List.length_filter_le _ _
  have h2 : ∀ (l : NameL) p i, (putN l p i).length ≤ l.length + 1 := fun l p i => by
    unfold putN
    split
    · rw [List.length_map]; omega
    rw [List.length_append]; simp
  have h3 := h1 (putN (putN D.names nxtB (newI D)) nxtN (newI D)) nxtB; have h4 := h2 (putN D.names nxtB (newI D)) nxtN (newI D); have h5 := h2 D.names nxtB (newI D); omega
theorem HostQ.load (h : HostQ D o) : (D.load arcN).1 = (o.getD ⟨#[]⟩, o.isSome, 0) ∧ HostQ (D.load arcN).2 o := by
  rcases h.arc with ⟨h1, h2⟩ | ⟨s, n, h1, h2, h3, h4⟩
  · rw [load_none okArcN h.on h.fates (at_none_of h2)]
    subst h1; exact ⟨rfl, h.tick _ _ _⟩
  rw [load_file okArcN h.on h.fates h2 h3]; subst h1; exact ⟨by rw [h4]; rfl, h.tick _ _ _⟩
theorem HostQ.loadN (h : HostQ D o) : (D.load nxtN).1 = (⟨#[]⟩, false, 0) ∧ HostQ (D.load nxtN).2 o := by
  rw [load_none okNxtN h.on h.fates h.atnn]; exact ⟨rfl, h.tick _ _ _⟩
theorem HostQ.clear (h : HostQ D o) : (D.clear nxtN).1 = 0 ∧ HostQ (D.clear nxtN).2 o := by
  rw [clear_none okNxtN h.on h.fates h.atnn]; exact ⟨rfl, h.tick _ _ _⟩
theorem HostQ.flush (h : HostQ D o) : D.flush.1 = 0 ∧ HostQ D.flush.2 o := by
  have hfl : D.flush = (0, (D.tick fN ⟨#[]⟩ ⟨#[]⟩).flush_) := call_run (step_free fN ⟨#[]⟩ ⟨#[]⟩ h.on h.fates)
  rw [hfl]; exact ⟨rfl, ⟨h.own, h.nb, h.nn, h.arc, h.on, h.fates, rfl, rfl, h.clean, h.bnd, h.len⟩⟩
theorem HostQ.crash {f : FateP} (h : HostQ D o) (ha : f.at_ = 0) (hw : f.what = 3) : HostQ ((D.boot [f]).flush.2.boot []) o := by
  have hs := step_crash (D := D.boot [f]) fN ⟨#[]⟩ ⟨#[]⟩ f rfl rfl ha hw; have hy : (D.boot [f]).flush = (75, ((D.boot [f]).tick fN ⟨#[]⟩ ⟨#[]⟩).crash f) := call_err hs n75
  rw [hy]; have hn : (((D.boot [f]).tick fN ⟨#[]⟩ ⟨#[]⟩).crash f).names = D.names := by
    rcases crash_names ((D.boot [f]).tick fN ⟨#[]⟩ ⟨#[]⟩) f with hc | hc
    · rw [hc]; exact h.safe
    rw [show ((D.boot [f]).tick fN ⟨#[]⟩ ⟨#[]⟩).later = [] from h.later] at hc; cases hc
  have hi : (((D.boot [f]).tick fN ⟨#[]⟩ ⟨#[]⟩).crash f).inos = D.inos := by
    show D.inos.map (tear f.torn) = D.inos
    conv => rhs; rw [← List.map_id D.inos]
    exact List.map_congr_left fun n hm => tear_clean (h.clean n hm)
  generalize hE : ((D.boot [f]).tick fN ⟨#[]⟩ ⟨#[]⟩).crash f = E0 at hn hi
  have hat : ∀ x, (E0.boot []).at_ x = D.at_ x := fun x => by
    show E0.at_ x = _
    unfold PDisk.at_ PDisk.inode; rw [hn, hi]
  have hsf : E0.safe = E0.names := by rw [← hE]; rfl
  have hlt : E0.later = [] := by rw [← hE]; rfl
  refine ⟨?_, ?_, ?_, ?_, rfl, rfl, hsf, hlt, ?_, ?_, ?_⟩
  · obtain ⟨n, h1, h2⟩ := h.own
    exact ⟨n, (hat _).trans h1, h2⟩
  · show hasN E0.names nxtB = false
    rw [hn]; exact h.nb
  · show hasN E0.names nxtN = false
    rw [hn]; exact h.nn
  · rcases h.arc with ⟨h1, h2⟩ | ⟨s, n, h1, h2, h3⟩
    · exact .inl ⟨h1, by show hasN E0.names arcN = false; rw [hn]; exact h2⟩
    exact .inr ⟨s, n, h1, (hat _).trans h2, h3⟩
  · intro n hm
    exact h.clean n (by have hm : n ∈ E0.inos := hm; rwa [hi] at hm)
  · intro x
    show lookN E0.names x ≤ E0.inos.length
    rw [hn, hi]; exact h.bnd x
  show E0.names.length < 990
  rw [hn]; exact h.len
structure HostL (D : PDisk) (o : Option ByteArray) : Prop where
  arc : (o = none ∧ hasN D.names arcN = false) ∨ ∃ s n, o = some s ∧ D.at_ arcN = some n ∧ n.node.kind = 1 ∧ n.node.data = s
  on : D.off = false
  fates : D.fates = []
theorem HostQ.l (h : HostQ D o) : HostL D o := ⟨h.arc, h.on, h.fates⟩
theorem HostL.tick (h : HostL D o) (c p q : ByteArray) : HostL (D.tick c p q) o := ⟨h.arc, h.on, h.fates⟩
theorem HostL.load (h : HostL D o) : (D.load arcN).1 = (o.getD ⟨#[]⟩, o.isSome, 0) ∧ HostL (D.load arcN).2 o := by
  rcases h.arc with ⟨h1, h2⟩ | ⟨s, n, h1, h2, h3, h4⟩
  · rw [load_none okArcN h.on h.fates (at_none_of h2)]
    subst h1; exact ⟨rfl, h.tick _ _ _⟩
  rw [load_file okArcN h.on h.fates h2 h3]; subst h1; exact ⟨by rw [h4]; rfl, h.tick _ _ _⟩
theorem HostQ.spoil {t : ByteArray} (h : HostQ D (some s)) (ht : t.size ≤ 65536) : (D.write arcN t 0).1 = 0 ∧ HostL (D.write arcN t 0).2 (some t) := by
  rcases h.arc with ⟨h1, _⟩ | ⟨_, n, _, h2, h3, _⟩
  · cases h1
  have h2' : (D.tick wN arcN ⟨#[]⟩).at_ arcN = some n := h2
  have hw : D.write arcN t 0 = (0, { D.tick wN arcN ⟨#[]⟩ with inos := D.inos.set (lookN D.names arcN - 1) ⟨⟨⟨#[]⟩, 1, t, 0⟩, (D.tick wN arcN ⟨#[]⟩).clock, true⟩ }) := by
    refine (call_run (step_free wN arcN ⟨#[]⟩ h.on h.fates)).trans ?_
    unfold PDisk.write_; rw [h2', no_ok okArcN, par_in parArcN (dirOwn (D := D.tick wN arcN ⟨#[]⟩) h.own)]; have h1 : (decide (65536 < t.size) || decide ((0 : Int) < 0) || decide (511 < (0 : Int))) = false := by simp; omega
    rw [h1]; simp [firstE, h3]
    rfl
  rw [hw]; refine ⟨rfl, .inr ⟨t, ⟨⟨⟨#[]⟩, 1, t, 0⟩, (D.tick wN arcN ⟨#[]⟩).clock, true⟩, rfl, ?_, rfl, rfl⟩, h.on, h.fates⟩; unfold PDisk.at_ PDisk.inode at h2 ⊢
  show (if lookN D.names arcN = 0 then none else (D.inos.set (lookN D.names arcN - 1) _)[lookN D.names arcN - 1]?) = _
  split at h2
  · cases h2
  rename_i h0
  rw [if_neg h0, List.getElem?_set_self (List.getElem?_eq_some_iff.1 h2).1]
end
end
section
open Go.RowKit Go.Op
theorem isEmpty_iff (t : ByteArray) : t.toList.isEmpty = decide (t.size = 0) := by
  rw [← decide_eq_emptyBytes]; refine decide_eq_decide.2 ⟨fun h => by rw [h]; rfl, fun h => ?_⟩
  apply ByteArray.ext
  exact Array.eq_empty_of_size_eq_zero h
def chkA (a : Arc) : Int := if okArc a then 0 else 90
set_option maxRecDepth 100000 in
set_option maxHeartbeats 4000000 in
theorem acheck_any (v : Value) (a : Arc) (w : World) (hA : ArcAt w v a) (hT : Tabs w) (r : Int) (hr : chkA a = r) :
    Calls Tryz.prog 68 #[v] w fun e w' => e = .returned (.int .i64 r) ∧ Off [] w w' := by
  obtain ⟨⟨tp, c, sp, d, rfl, hR, hS, hc, hcm, hd, hdm, _⟩, hF, hlen, hps, hser, _⟩ := hA; unfold chkA okArc at hr; obtain ⟨n, hn⟩ : ∃ n, a.tree.length = n := ⟨_, rfl⟩
  obtain ⟨m, hm⟩ : ∃ m, a.stamps.length = m := ⟨_, rfl⟩
  have HB := Lib.hid (fun (W : World) (ho : Off [] w W) (b : Bool) (hb : bareV a.tree = b) => isbare_any tp a.tree n c W (hR.off ho) hn (by omega) (by omega) hF (hT.off ho) b hb); have HS := Lib.hid (fun (W : World) (ho : Off [] w W) (b : Bool) (hb : (!a.stamps.all stmOk) = b) => hasS_any sp a.stamps m d W (hS.off ho) hm (by omega) b hb); have he := isEmpty_iff a.pair; rw [hn, hm] at hr ⊢
  obtain ⟨pr, hpr⟩ : ∃ pr, a.pair = pr := ⟨_, rfl⟩
  obtain ⟨sr, hsr⟩ : ∃ sr, a.serial = sr := ⟨_, rfl⟩
  obtain ⟨bv, hbv⟩ : ∃ bv, bareV a.tree = bv := ⟨_, rfl⟩
  obtain ⟨sv, hsv⟩ : ∃ sv, a.stamps.all stmOk = sv := ⟨_, rfl⟩
  rw [hbv, hsv] at hr; have HB := Lib.hid (fun W ho => HB.out W ho bv hbv); have HS := Lib.hid (fun W ho => HS.out W ho (!sv) (by rw [hsv])); rw [hpr, hsr] at hr ⊢; rw [hpr] at he hps; rw [hsr] at hser; clear hpr hsr hbv hsv hR hS hF hT hn hm hc hd hcm hdm hlen
  by_cases h1 : pr.size = 0
  · rw [decide_eq_true h1] at he
    rw [decide_eq_false (show ¬ 1 ≤ pr.size by omega)] at hr; have hr : (90 : Int) = r := hr
    clear h1; subst hr
    go_enter Tryz.func68, Tryz.ntmps68
    go_wp2_with fail
    go_ret
    exact ⟨rfl, (Off.refl _ _).alloc _⟩
  rw [decide_eq_false h1] at he; rw [decide_eq_true (show 1 ≤ pr.size by omega)] at hr
  by_cases h2 : 64 < pr.size
  · have g2 : (64 : Int) < pr.size := by omega
    rw [decide_eq_false (show ¬ pr.size ≤ 64 by omega)] at hr; have hr : (90 : Int) = r := hr
    clear h1 h2; subst hr
    go_enter Tryz.func68, Tryz.ntmps68
    go_wp2_with fail
    go_ret
    exact ⟨rfl, (Off.refl _ _).alloc _⟩
  have g2 : ¬ (64 : Int) < pr.size := by omega
  rw [decide_eq_true (show pr.size ≤ 64 by omega)] at hr; clear h1 h2
  by_cases h3 : sr < 0
  · rw [decide_eq_false (show ¬ 0 ≤ sr by omega)] at hr
    have hr : (90 : Int) = r := hr
    subst hr
    go_enter Tryz.func68, Tryz.ntmps68
    go_wp2_with fail
    go_ret
    exact ⟨rfl, (Off.refl _ _).alloc _⟩
  rw [decide_eq_true (show 0 ≤ sr by omega)] at hr
  cases bv
  · have hr : (90 : Int) = r := hr
    subst hr
    go_enter Tryz.func68, Tryz.ntmps68
    go_wp2_with fail
    have HO := Lib.hid ((Off.refl [] w).alloc (.cells #[.string pr, .int .i64 sr, .slice tp n c, .slice sp m d] 52)); refine (HB.out _ HO.out).mono ?_; rintro e w1 ⟨rfl, ho1⟩; have HB0 := Lib.hid ((Blk.new w 52 #[.string pr, .int .i64 sr, .slice tp n c, .slice sp m d]).off ho1 (by simp)); have hc1 := HB0.out.cell; have hl1 := HB0.out.lt; have HO1 := Lib.hid (HO.out.trans_nil ho1); clear ho1
    go_wp2_with fail
    go_ret
    exact ⟨rfl, HO1.out⟩
  by_cases h5 : ¬ m = n
  · have g5 : ((m : Int) == (n : Int)) = false := beq_eq_false_iff_ne.2 (by omega)
    have g6 : ((m : Int) != (n : Int)) = true := by rw [bne, g5]; rfl
    have g7 : ¬ (m : Int) = (n : Int) := by omega
    rw [decide_eq_false h5] at hr; have hr : (90 : Int) = r := hr
    clear h5; subst hr
    go_enter Tryz.func68, Tryz.ntmps68
    go_wp2_with fail
    have HO := Lib.hid ((Off.refl [] w).alloc (.cells #[.string pr, .int .i64 sr, .slice tp n c, .slice sp m d] 52)); refine (HB.out _ HO.out).mono ?_; rintro e w1 ⟨rfl, ho1⟩; have HB0 := Lib.hid ((Blk.new w 52 #[.string pr, .int .i64 sr, .slice tp n c, .slice sp m d]).off ho1 (by simp)); have hc1 := HB0.out.cell; have hl1 := HB0.out.lt; have HO1 := Lib.hid (HO.out.trans_nil ho1); clear ho1
    go_wp2_with fail
    go_ret
    exact ⟨rfl, HO1.out⟩
  have h5 : m = n := by omega
  have g5 : ((m : Int) == (n : Int)) = true := by rw [h5]; exact beq_self_eq_true _
  have g6 : ((m : Int) != (n : Int)) = false := by rw [bne, g5]; rfl
  rw [decide_eq_true h5] at hr; clear h5
  cases sv
  · have hr : (90 : Int) = r := hr
    subst hr
    go_enter Tryz.func68, Tryz.ntmps68
    go_wp2_with fail
    have HO := Lib.hid ((Off.refl [] w).alloc (.cells #[.string pr, .int .i64 sr, .slice tp n c, .slice sp m d] 52)); refine (HB.out _ HO.out).mono ?_; rintro e w1 ⟨rfl, ho1⟩; have HB0 := Lib.hid ((Blk.new w 52 #[.string pr, .int .i64 sr, .slice tp n c, .slice sp m d]).off ho1 (by simp)); have hc1 := HB0.out.cell; have hl1 := HB0.out.lt; have HO1 := Lib.hid (HO.out.trans_nil ho1); clear ho1
    go_wp2_with fail
    refine (HS.out _ HO1.out).mono ?_
    rintro e w2 ⟨rfl, ho2⟩; have HO2 := Lib.hid (HO1.out.trans_nil ho2); clear ho2
    go_wp2_with fail
    go_ret
    exact ⟨rfl, HO2.out⟩
  have hr : (0 : Int) = r := hr
  subst hr
  go_enter Tryz.func68, Tryz.ntmps68
  go_wp2_with fail
  have HO := Lib.hid ((Off.refl [] w).alloc (.cells #[.string pr, .int .i64 sr, .slice tp n c, .slice sp m d] 52)); refine (HB.out _ HO.out).mono ?_; rintro e w1 ⟨rfl, ho1⟩; have HB0 := Lib.hid ((Blk.new w 52 #[.string pr, .int .i64 sr, .slice tp n c, .slice sp m d]).off ho1 (by simp)); have hc1 := HB0.out.cell; have hl1 := HB0.out.lt; have HO1 := Lib.hid (HO.out.trans_nil ho1); clear ho1
  go_wp2_with fail
  refine (HS.out _ HO1.out).mono ?_
  rintro e w2 ⟨rfl, ho2⟩; have HO2 := Lib.hid (HO1.out.trans_nil ho2); clear ho2
  go_wp2_with fail
  go_ret
  exact ⟨rfl, HO2.out⟩
end
section
open Go.RowKit Go.Op
theorem infoBld : (Tryz.prog.info? 205).map (·.size) = some 2 := by kernel_rfl
theorem liesWr : liesAt Tryz.prog Tryz.prog.depth 207 (2 / Tryz.prog.cellsOf 207) 0 205 1 = true := by kernel_rfl
def WrAt (B b : Nat) (l : Str) (w : World) : Prop := Lib.IsBuilder 207 5 B b (Lib.byteCells l) w
def KeepB (b : Nat) (w w' : World) : Prop := ∀ (g : Nat) (t : TypeId) (cs : Array Value), Blk w g t cs → t ≠ 5 → g ≠ b → Blk w' g t cs
theorem KeepB.refl (b : Nat) (w : World) : KeepB b w w := fun _ _ _ h _ _ => h
theorem KeepB.trans {b : Nat} {w w' w'' : World} (h : KeepB b w w') (k : KeepB b w' w'') : KeepB b w w'' := fun g t cs hB ht hg => k g t cs (h g t cs hB ht hg) ht hg
theorem KeepB.off {b : Nat} {w w' : World} (ho : Off [] w w') : KeepB b w w' := fun _ _ _ hB _ _ => hB.off ho (by simp)
theorem KeepB.set_ {b i : Nat} {w : World} {v : Value} : KeepB b w (w.setCell ⟨b, i, none⟩ v) := fun _ _ _ hB _ hg => hB.far hg _
set_option maxRecDepth 100000 in
theorem bcheck_used (b : Nat) (w : World) (h0 : w.cell? ⟨b, 0, none⟩ = some (.pointer (some ⟨b, 0, none⟩))) :
    Calls Tryz.prog 234 #[.pointer (some ⟨b, 0, none⟩)] w fun e w' => e = .returned (.tuple #[]) ∧ w' = w := by
  obtain ⟨j, hj, _⟩ := Option.map_eq_some_iff.1 infoBld
  go_enter Tryz.func234, Tryz.ntmps234
  go_wp2_with fail
  rw [Lib.run_neq_ptr_same w _ Tryz.underlying203 hj]
  go_wp2_with fail
  go_end0
  exact ⟨rfl, rfl⟩
set_option maxRecDepth 100000 in
theorem bcheck_fresh (b : Nat) (w : World) (h0 : w.cell? ⟨b, 0, none⟩ = some (.pointer none)) (hsh : w.shape? b = some (207, 2)) (hfz : w.frozen? ⟨b, 0, none⟩ = false) :
    Calls Tryz.prog 234 #[.pointer (some ⟨b, 0, none⟩)] w fun e w' => e = .returned (.tuple #[]) ∧ w' = w.setCell ⟨b, 0, none⟩ (.pointer (some ⟨b, 0, none⟩)) := by
  obtain ⟨j, hj, hjs⟩ := Option.map_eq_some_iff.1 infoBld
  go_enter Tryz.func234, Tryz.ntmps234
  go_wp2_with fail
  rw [Lib.run_to_unsafe w ⟨b, 0, none⟩ Tryz.underlying203 Tryz.underlying339 hj (by rw [hjs]; decide) hsh (Nat.zero_lt_succ 1)]; simp only [Result.andThen]; rw [Oper.upon_value]
  go_wp2_with fail
  rw [run_callFunc_extern Tryz.func287 (by kernel_rfl) (by kernel_rfl) (by kernel_rfl) (e := Extern.AbiNoEscape.same) (by kernel_rfl)]; rw [Lib.run_noEscape]; simp only [Result.andThen]; rw [Oper.upon_value]
  go_wp2_with fail
  rw [Lib.run_from_unsafe w ⟨b, 0, none⟩ Tryz.underlying339 Tryz.underlying203 hj hsh liesWr]; simp only [Result.andThen]; rw [Oper.upon_value]
  go_wp2_with fail
  go_end0
  exact ⟨rfl, rfl⟩
theorem bcheck_any (B b : Nat) (bs : List Value) (w : World) (h : Lib.IsBuilder 207 5 B b bs w) :
    Calls Tryz.prog 234 #[.pointer (some ⟨b, 0, none⟩)] w fun e w' => e = .returned (.tuple #[]) ∧ (Lib.BuilderAt 207 5 B b (.pointer (some ⟨b, 0, none⟩)) bs w' ∧ Below B w w' ∧ KeepB b w w') := by
  rcases h with h | h
  · refine (bcheck_fresh b w h.cell0 h.shape h.frozen0).mono ?_
    rintro e w' ⟨rfl, rfl⟩; exact ⟨rfl, h.used _, (Below.refl B w).setCell (p := ⟨b, 0, none⟩) h.1 _, KeepB.set_⟩
  refine (bcheck_used b w h.cell0).mono ?_
  rintro e w' ⟨rfl, rfl⟩; exact ⟨rfl, h, Below.refl B _, KeepB.refl _ _⟩
set_option maxRecDepth 100000 in
set_option maxHeartbeats 2000000 in
theorem bwrite_any (B b : Nat) (bs : List Value) (s : ByteArray) (w : World) (h : Lib.IsBuilder 207 5 B b bs w) (hlen : bs.length + s.size ≤ 140737488355328) (hBw : B ≤ w.heap.size) :
    Calls Tryz.prog 197 #[.pointer (some ⟨b, 0, none⟩), .string s] w fun e w' => e = .returned (.tuple #[.int .i64 s.size, .nilIface]) ∧ (Lib.BuilderAt 207 5 B b (.pointer (some ⟨b, 0, none⟩)) (bs ++ Lib.strCells s) w' ∧ Below B w w' ∧ KeepB b w w') := by
  obtain ⟨i0, hi, hz0, hz1, hz2⟩ := info_parts infoU8; have HC := Lib.hid (bcheck_any B b bs w h); clear h
  go_enter Tryz.func197, Tryz.ntmps197
  go_wp2_with fail
  refine HC.out.mono ?_
  rintro e w1 ⟨rfl, h1, hb1, hk1⟩; have HK1 := Lib.hid hk1; clear HC hk1; obtain ⟨hB, v, hbk, hown, hne⟩ := h1; have c0 : w1.cell? ⟨b, 0, none⟩ = some (.pointer (some ⟨b, 0, none⟩)) := by rw [Lib.cell_of_heap hbk]; rfl
  have c1 : w1.cell? ⟨b, 1, none⟩ = some v := by rw [Lib.cell_of_heap hbk]; rfl
  go_wp2_with (at_builtin; refine Lib.wpList_append_own_string _ rfl _ _ 96 9 rfl B 5 i0 Tryz.underlying96 Tryz.underlying9 hi hz0 hz1 hz2 _ _ _ rfl hown s rfl ?c3 ?c4 ?c5 ?_)
  case c3 => unfold maxLen; omega
  case c4 => omega
  case c5 => have := hb1.size; omega
  intro v' w2 hown' hgrow _
  have hlt : b < w1.heap.size := by
    rcases Nat.lt_or_ge b w1.heap.size with h' | h'
    · exact h'
    simp [Array.getElem?_eq_none h'] at hbk
  have hb2 : w2.heap[b]? = some (.cells #[.pointer (some ⟨b, 0, none⟩), v] 207 (0, 0)) := by
    rw [hgrow.block b hlt (fun e => hne e.symm)]; exact hbk
  have d0 : w2.cell? ⟨b, 0, none⟩ = some (.pointer (some ⟨b, 0, none⟩)) := by rw [Lib.cell_of_heap hb2]; rfl
  have d1 : w2.cell? ⟨b, 1, none⟩ = some v := by rw [Lib.cell_of_heap hb2]; rfl
  have f1 : w2.frozen? ⟨b, 1, none⟩ = false := Lib.frozen_of_heap hb2 1
  obtain ⟨ao, n', cap, rfl⟩ : ∃ ao n' cap, v' = .slice ao n' cap := by
    rcases hown'.2 with ⟨hv, _⟩ | ⟨g, cap, cur, hv, _⟩
    · exact ⟨_, _, _, hv⟩
    exact ⟨_, _, _, hv⟩
  go_wp2_with fail
  go_ret2
  refine ⟨rfl, ?_, ?_, ?_⟩
  · exact Lib.BuilderAt.put (T := 207) (e := 5) hB hb2 (bs' := bs ++ Lib.strCells s) (by simpa [Lib.strCells_length] using hown') (by decide)
  · exact (hb1.grown hgrow (by have := hb1.size; omega) (fun k hk => (hown.lt k hk).1)).setCell (p := ⟨b, 1, none⟩) hB _
  refine HK1.out.trans (KeepB.trans (fun g t cs hB1 ht _ => hB1.grown hgrow (fun e => ?_)) KeepB.set_)
  rcases hown.2 with ⟨rfl, _⟩ | ⟨g', cap', cur, rfl, _, hh, _⟩
  · cases e
  have e2 : g = g' := by simpa [Value.ownBlock] using e
  subst e2; unfold Blk at hB1; rw [hh] at hB1; injection hB1 with hB1
  injection hB1 with _ hB2
  exact ht hB2.symm
theorem strCells_eq (s : ByteArray) : Lib.strCells s = Lib.byteCells (str s) := rfl
theorem byteCells_append (a b : Str) : Lib.byteCells (a ++ b) = Lib.byteCells a ++ Lib.byteCells b := by unfold Lib.byteCells; exact List.map_append ..
theorem wwrite_any (B b : Nat) (l : Str) (s : ByteArray) (w : World) (h : WrAt B b l w) (hlen : l.length + s.size ≤ 140737488355328) (hBw : B ≤ w.heap.size) :
    Calls Tryz.prog 197 #[.pointer (some ⟨b, 0, none⟩), .string s] w fun e w' => (∃ v, e = .returned v) ∧ WrAt B b (l ++ str s) w' ∧ Below B w w' ∧ KeepB b w w' := by
  refine (bwrite_any B b (Lib.byteCells l) s w h (by rw [Lib.byteCells_length]; exact hlen) hBw).mono ?_
  rintro e w' ⟨rfl, h1, h2, h3⟩; refine ⟨⟨_, rfl⟩, .inr ?_, h2, h3⟩; rw [byteCells_append, ← strCells_eq]; exact h1
set_option maxRecDepth 100000 in
set_option maxHeartbeats 2000000 in
theorem wstring_any (B b : Nat) (l : Str) (w : World) (h : WrAt B b l w) (h0 : l ≠ []) :
    Calls Tryz.prog 146 #[.pointer (some ⟨b, 0, none⟩)] w fun e w' => e = .returned (.string (bs l)) ∧ Below B w w' := by
  obtain ⟨p, hB, v, hbk, hown, hne⟩ : ∃ p, Lib.BuilderAt 207 5 B b p (Lib.byteCells l) w := by
    rcases h with h | h
    · exact ⟨_, h⟩
    exact ⟨_, h⟩
  have hl0 : l.length ≠ 0 := by simpa using h0
  rw [Lib.byteCells_length] at hown; obtain ⟨g, cap, cur, rfl, hbg, hg, hnc, hcm, hcs, htake⟩ : ∃ g cap cur, v = .slice (some ⟨g, 0, none⟩) l.length cap ∧ B ≤ g ∧ w.heap[g]? = some (.cells cur 5 (0, 0)) ∧ l.length ≤ cap ∧ cap ≤ maxLen ∧ cur.size = cap * 1 ∧ cur.toList.take (l.length * 1) = Lib.byteCells l := by
    rcases hown.2 with ⟨_, hz⟩ | ⟨g, cap, cur, hv, r⟩
    · exact absurd hz hl0
    exact ⟨g, cap, cur, hv, r⟩
  have c1 : w.drew.cell? ⟨b, 1, none⟩ = some (.slice (some ⟨g, 0, none⟩) l.length cap) := by
    have : w.drew.heap[b]? = some (.cells #[p, .slice (some ⟨g, 0, none⟩) l.length cap] 207 (0, 0)) := hbk
    rw [Lib.cell_of_heap this]; rfl
  have hSD : (Builtin.unsafeSliceData_ #[96] 257 #[.slice (some ⟨g, 0, none⟩) l.length cap]).run Tryz.prog w.drew = .ok (.pointer (some ⟨g, 0, none⟩)) w.drew :=
    Lib.run_unsafeSliceData_row _ _ _ _ _ _ (by omega)
  have hUS : (Builtin.unsafeString_ #[257, 3] 9 #[.pointer (some ⟨g, 0, none⟩), .int .i64 l.length]).run Tryz.prog w.drew = .ok (.string ⟨l.toArray⟩) (w.drew.freeze ⟨g, 0, none⟩ l.length) := by
    refine Lib.run_unsafeString_row w.drew 257 3 9 5 Tryz.underlying257 (by kernel_rfl) g cur.size (by have hg' : w.drew.heap[g]? = some (.cells cur 5 (0, 0)) := hg; simp [World.shape?, hg']) l h0 (by omega) (by unfold maxLen at hcm; omega) ?_
    intro j x hx
    have := hown.cells (g := g) rfl j (.int .u8 x.toNat) (by simp [Lib.byteCells, hx]); exact this
  clear h hown hbk hg hcs htake
  go_enter Tryz.func146, Tryz.ntmps146
  go_wp2_with fail
  go_region
  all_goals (go_wp2_with fail; go_ret; exact ⟨rfl, Lib.below_freeze (Below.drew (Below.refl B w)) (p := ⟨g, 0, none⟩) hbg _⟩)
theorem WrAt.off {B b : Nat} {l : Str} {w w' : World} (h : WrAt B b l w) (ho : Off [] w w') (_hb : B ≤ w.heap.size) : WrAt B b l w' := by
  have key : ∀ p, Lib.BuilderAt 207 5 B b p (Lib.byteCells l) w → Lib.BuilderAt 207 5 B b p (Lib.byteCells l) w' := fun p hp => by
    have hlt := hp.lt; obtain ⟨h1, v, h2, h3, h4⟩ := hp; refine ⟨h1, v, (ho.block b hlt (by simp)).trans h2, ⟨h3.1, ?_⟩, h4⟩
    rcases h3.2 with hn | ⟨g, cap, cur, k1, k2, k3, k4⟩
    · exact .inl hn
    exact .inr ⟨g, cap, cur, k1, k2, (ho.block g (Array.getElem?_eq_some_iff.1 k3).1 (by simp)).trans k3, k4⟩
  rcases h with h | h
  · exact .inl (key _ h)
  exact .inr (key _ h)
theorem WrAt.new (w : World) : WrAt w.heap.size w.heap.size [] (w.alloc (.cells #[.pointer none, .slice none 0 0] 207)) := Lib.fresh_isBuilder _ _ _
def strsC (ts : List ByteArray) : Array Value := (ts.map Value.string).toArray
def intsC (ts : List Int) : Array Value := (ts.map (Value.int .i64)).toArray
theorem wput_any (B b : Nat) (l : Str) (t : Str) (w : World) (h : WrAt B b l w) (hlen : l.length + t.length ≤ 140737488355328) (hBw : B ≤ w.heap.size) :
    Calls Tryz.prog 197 #[.pointer (some ⟨b, 0, none⟩), .string ⟨t.toArray⟩] w fun e w' => (∃ v, e = .returned v) ∧ WrAt B b (l ++ t) w' ∧ Below B w w' ∧ KeepB b w w' := by
  have := wwrite_any B b l ⟨t.toArray⟩ w h (by simpa [ByteArray.size] using hlen) hBw
  simpa [str] using this
set_option maxRecDepth 100000 in
set_option maxHeartbeats 4000000 in
theorem wtexts_any (B b g n c : Nat) (l : Str) (ts : List ByteArray) (w : World) (h : WrAt B b l w) (hBw : B ≤ w.heap.size) (hS : Blk w g 9 (strsC ts)) (hn : ts.length = n) (hb : n ≤ 10) (hsz : ∀ t ∈ ts, t.size ≤ 1048576) (hl : l.length ≤ 1000000000) :
    Calls Tryz.prog 143 #[.pointer (some ⟨b, 0, none⟩), .slice (some ⟨g, 0, none⟩) n c] w fun e w' => e = .returned (.tuple #[]) ∧ WrAt B b (l ++ ts.flatMap txtB) w' ∧ Below B w w' ∧ KeepB b w w' := by
  have hgb : g ≠ b := by
    have key : ∀ p, Lib.BuilderAt 207 5 B b p (Lib.byteCells l) w → g ≠ b := fun p hp => by
      obtain ⟨_, v, h2, _⟩ := hp; have hb2 : Blk w b 207 #[p, v] := h2
      exact hS.ne_ hb2 (by decide)
    rcases h with h | h
    · exact key _ h
    exact key _ h
  have HN := Lib.hid hn; have HS := Lib.hid hS; have HW := Lib.hid h; have HSZ := Lib.hid hsz; have HG := Lib.hid hgb; clear h hS hn hsz hgb
  go_enter Tryz.func143, Tryz.ntmps143
  go_wp2_with fail
  go_loopw [8] (fun x wr => ∃ i : Nat, x = .int .i64 i ∧ i ≤ n ∧ Hid (WrAt B b (l ++ (ts.take i).flatMap txtB) wr ∧ Below B w wr ∧ KeepB b w wr)) (fun x _ => n - (intOf x).toNat)
  case atStart => exact ⟨0, rfl, by omega, Lib.hid ⟨by simpa using HW.out, Below.refl B w, KeepB.refl b w⟩⟩
  case round =>
    obtain ⟨i, rfl, hi, HR⟩ := hrel
    by_cases hlt : i < n
    · have hil : i < ts.length := by rw [HN.out]; exact hlt
      have hx := List.getElem?_eq_getElem hil; have HM := Lib.hid (HSZ.out _ (List.getElem_mem hil)); have HX := Lib.hid hx; generalize ts[i] = t at hx HM HX; have hcell : wr.cell? ⟨g, i, none⟩ = some (.string t) := by
        rw [(HR.out.2.2 g _ _ HS.out (by decide) HG.out).cell i]; unfold strsC; rw [List.getElem?_toArray, List.getElem?_map, hx]
        rfl
      have hbs : B ≤ wr.heap.size := Nat.le_trans hBw HR.out.2.1.size
      have hil2 : (i : Int) < n := by omega
      have HT := Lib.hid (fun (W : World) => text_any t W (by have := HM.out; omega)); have htl : (textB t).length ≤ 1048600 := by
        have h1 := HM.out; have h2 := numLen (n := t.size) (by omega)
        show (Pl.num t.size ++ t.data.toList).length ≤ _
        rw [List.length_append]; have h3 : t.data.toList.length = t.size := Array.length_toList
        omega
      have hpl : (l ++ (ts.take i).flatMap txtB).length ≤ 1000000000 + 11 * 1048600 := by
        have key : ∀ (k : Nat) (L : List ByteArray), L.length ≤ k → (∀ t ∈ L, t.size ≤ 1048576) → (L.flatMap txtB).length ≤ k * 1048600 := fun k => by
          induction k with
          | zero => intro L hL _; rw [List.length_eq_zero_iff.1 (Nat.le_zero.1 hL)]; simp
          | succ k ih =>
            intro L hL hs
            cases L with
            | nil => simp
            | cons x L =>
              rw [List.flatMap_cons, List.length_append]; have h1 := ih L (by simpa using hL) (fun t ht => hs t (List.mem_cons_of_mem _ ht)); have h2 := hs x (List.mem_cons_self ..); have h3 := numLen (n := x.size) (by omega); have h4 : (txtB x).length = (Pl.num x.size).length + x.size := by unfold txtB; rw [List.length_append, str_size]
              rw [Nat.succ_mul]; omega
        have h1 := key i (ts.take i) (by simp; omega) (fun t ht => HSZ.out t (List.mem_of_mem_take ht)); rw [List.length_append]; have : i * 1048600 ≤ 11 * 1048600 := Nat.mul_le_mul_right _ (by omega)
        omega
      have HP := Lib.hid (And.intro htl hpl); clear hx hil htl hpl
      go_upto_region 3 with fail
      have HD := Lib.hid (show ∀ W, Off [] wr W → WrAt B b (l ++ (ts.take i).flatMap txtB) W ∧ B ≤ W.heap.size from fun W ho => ⟨HR.out.1.off ho hbs, Nat.le_trans hbs ho.size⟩)
      go_region_held3 (fun _ => True) (trivial) (first
        | (go_at_call 198; refine (HT.out _).mono ?_; rintro e w2 ⟨rfl, ho2⟩)
        | (go_at_call 197; have ho3 := (Off.refl [] wr).drew.trans_nil (by assumption : Off [] wr.drew _); refine (wput_any B b _ (textB t) _ (HD.out _ ho3).1 (by have := HP.out; omega) (HD.out _ ho3).2).mono ?_; rintro e w3 ⟨⟨v, rfl⟩, hw3, hb3, hk3⟩))
      all_goals
        go_wp2_with fail
        have hw3 := (by assumption : WrAt B b (l ++ (ts.take i).flatMap txtB ++ textB t) _); have hb3 := (by assumption : Below B _ _); have hk3 := (by assumption : KeepB b _ _); have ho2 := (by assumption : Off [] wr.drew _); refine ⟨⟨i + 1, by congr 1, by omega, Lib.hid ⟨?_, ?_, ?_⟩⟩, by simp only [intOf]; omega⟩
        · have e : (ts.take (i + 1)).flatMap txtB = (ts.take i).flatMap txtB ++ textB t := by
            rw [List.take_add_one, HX.out, List.flatMap_append]; simp [txtB, textB, str]
          rw [e, ← List.append_assoc]; exact hw3
        · exact (HR.out.2.1.trans ((Off.below ((Off.refl [] wr).drew.trans_nil ho2)).mono hbs)).trans hb3
        exact (HR.out.2.2.trans (KeepB.off ((Off.refl [] wr).drew.trans_nil ho2))).trans hk3
    obtain rfl : i = n := by omega
    have e : ts.take i = ts := List.take_of_length_le (by rw [HN.out]; exact Nat.le_refl _)
    rw [e] at HR
    go_wp2_with fail
    go_end0
    exact ⟨rfl, HR.out⟩
set_option maxRecDepth 100000 in
set_option maxHeartbeats 4000000 in
theorem wnums_any (B b g n c : Nat) (l : Str) (ts : List Int) (w : World) (h : WrAt B b l w) (hBw : B ≤ w.heap.size) (hS : Blk w g 3 (intsC ts)) (hn : ts.length = n) (hb : n ≤ 10) (hsz : ∀ t ∈ ts, 0 ≤ t ∧ t ≤ 9223372036854775807) (hl : l.length ≤ 1000000000) :
    Calls Tryz.prog 144 #[.pointer (some ⟨b, 0, none⟩), .slice (some ⟨g, 0, none⟩) n c] w fun e w' => e = .returned (.tuple #[]) ∧ WrAt B b (l ++ ts.flatMap numB) w' ∧ Below B w w' ∧ KeepB b w w' := by
  have hgb : g ≠ b := by
    have key : ∀ p, Lib.BuilderAt 207 5 B b p (Lib.byteCells l) w → g ≠ b := fun p hp => by
      obtain ⟨_, v, h2, _⟩ := hp; have hb2 : Blk w b 207 #[p, v] := h2
      exact hS.ne_ hb2 (by decide)
    rcases h with h | h
    · exact key _ h
    exact key _ h
  have HN := Lib.hid hn; have HS := Lib.hid hS; have HW := Lib.hid h; have HSZ := Lib.hid hsz; have HG := Lib.hid hgb; clear h hS hn hsz hgb
  go_enter Tryz.func144, Tryz.ntmps144
  go_wp2_with fail
  go_loopw [8] (fun x wr => ∃ i : Nat, x = .int .i64 i ∧ i ≤ n ∧ Hid (WrAt B b (l ++ (ts.take i).flatMap numB) wr ∧ Below B w wr ∧ KeepB b w wr)) (fun x _ => n - (intOf x).toNat)
  case atStart => exact ⟨0, rfl, by omega, Lib.hid ⟨by simpa using HW.out, Below.refl B w, KeepB.refl b w⟩⟩
  case round =>
    obtain ⟨i, rfl, hi, HR⟩ := hrel
    by_cases hlt : i < n
    · have hil : i < ts.length := by rw [HN.out]; exact hlt
      have hx := List.getElem?_eq_getElem hil; have HM := Lib.hid (HSZ.out _ (List.getElem_mem hil)); have HX := Lib.hid hx; generalize ts[i] = t at hx HM HX; have hcell : wr.cell? ⟨g, i, none⟩ = some (.int .i64 t) := by
        rw [(HR.out.2.2 g _ _ HS.out (by decide) HG.out).cell i]; unfold intsC; rw [List.getElem?_toArray, List.getElem?_map, hx]
        rfl
      have hbs : B ≤ wr.heap.size := Nat.le_trans hBw HR.out.2.1.size
      have hil2 : (i : Int) < n := by omega
      have hnn : ((t.toNat : Nat) : Int) = t := Int.toNat_of_nonneg HM.out.1
      have HT := Lib.hid (fun (W : World) => num_any t.toNat W (by have := HM.out; omega)); rw [hnn] at HT; have htl : (Pl.num t.toNat).length ≤ 10 := Pl.num_len 9 _ (by have := HM.out; omega)
      have hpl : (l ++ (ts.take i).flatMap numB).length ≤ 1000000000 + 110 := by
        have key : ∀ (k : Nat) (L : List Int), L.length ≤ k → (∀ t ∈ L, 0 ≤ t ∧ t ≤ 9223372036854775807) → (L.flatMap numB).length ≤ k * 10 := fun k => by
          induction k with
          | zero => intro L hL _; rw [List.length_eq_zero_iff.1 (Nat.le_zero.1 hL)]; simp
          | succ k ih =>
            intro L hL hs
            cases L with
            | nil => simp
            | cons x L =>
              rw [List.flatMap_cons, List.length_append]; have h1 := ih L (by simpa using hL) (fun t ht => hs t (List.mem_cons_of_mem _ ht)); have h2 := hs x (List.mem_cons_self ..); have h3 : (numB x).length ≤ 10 := Pl.num_len 9 _ (by omega)
              rw [Nat.succ_mul]; omega
        have h1 := key i (ts.take i) (by simp; omega) (fun t ht => HSZ.out t (List.mem_of_mem_take ht)); rw [List.length_append]; have : i * 10 ≤ 11 * 10 := Nat.mul_le_mul_right _ (by omega)
        omega
      clear hnn; obtain ⟨pn, hpn⟩ : ∃ pn, Pl.num t.toNat = pn := ⟨_, rfl⟩
      have hT2 := HT.out; unfold NumPost at hT2; rw [hpn] at hT2 htl; have HT := Lib.hid hT2; have HPN := Lib.hid hpn; clear hT2 hpn; have HP := Lib.hid (And.intro htl hpl); clear hx hil htl hpl
      go_upto_region 3 with fail
      have HD := Lib.hid (show ∀ W, Off [] wr W → WrAt B b (l ++ (ts.take i).flatMap numB) W ∧ B ≤ W.heap.size from fun W ho => ⟨HR.out.1.off ho hbs, Nat.le_trans hbs ho.size⟩)
      go_region_held3 (fun _ => True) (trivial) (first
        | (go_at_call 199; refine (HT.out _).mono ?_; rintro e w2 ⟨rfl, ho2⟩)
        | (go_at_call 197; have ho3 := (Off.refl [] wr).drew.trans_nil (by assumption : Off [] wr.drew _); refine (wput_any B b _ (pn) _ (HD.out _ ho3).1 (by have := HP.out; omega) (HD.out _ ho3).2).mono ?_; rintro e w3 ⟨⟨v, rfl⟩, hw3, hb3, hk3⟩))
      all_goals
        go_wp2_with fail
        have hw3 := (by assumption : WrAt B b (l ++ (ts.take i).flatMap numB ++ pn) _); have hb3 := (by assumption : Below B _ _); have hk3 := (by assumption : KeepB b _ _); have ho2 := (by assumption : Off [] wr.drew _); refine ⟨⟨i + 1, by congr 1, by omega, Lib.hid ⟨?_, ?_, ?_⟩⟩, by simp only [intOf]; omega⟩
        · have e : (ts.take (i + 1)).flatMap numB = (ts.take i).flatMap numB ++ pn := by
            rw [List.take_add_one, HX.out, List.flatMap_append]; simp [numB]; exact HPN.out
          rw [e, ← List.append_assoc]; exact hw3
        · exact (HR.out.2.1.trans ((Off.below ((Off.refl [] wr).drew.trans_nil ho2)).mono hbs)).trans hb3
        exact (HR.out.2.2.trans (KeepB.off ((Off.refl [] wr).drew.trans_nil ho2))).trans hk3
    obtain rfl : i = n := by omega
    have e : ts.take i = ts := List.take_of_length_le (by rw [HN.out]; exact Nat.le_refl _)
    rw [e] at HR
    go_wp2_with fail
    go_end0
    exact ⟨rfl, HR.out⟩
end
section
open Go.RowKit Go.Op
set_option maxRecDepth 100000 in
set_option maxHeartbeats 4000000 in
theorem amatch_any (v1 v2 : Value) (a b : Arc) (w : World) (hA : ArcAt w v1 a) (hB : ArcAt w v2 b) (hl1 : a.tree.length ≤ 1099511627776) (hl2 : b.tree.length ≤ 1099511627776) (hT : Tabs w) (r : Bool) (hr : matchV a b = r) :
    Calls Tryz.prog 88 #[v1, v2] w fun e w' => e = .returned (.bool r) ∧ Off [] w w' := by
  have HCA := Lib.hid (fun (W : World) (ho : Off [] w W) (r : Int) (h : chkA a = r) => acheck_any v1 a W (hA.off ho) (hT.off ho) r h); have HCB := Lib.hid (fun (W : World) (ho : Off [] w W) (r : Int) (h : chkA b = r) => acheck_any v2 b W (hB.off ho) (hT.off ho) r h); obtain ⟨⟨tp, c, sp, d, rfl, hR, hS, hc, hcm, hd, hdm, _⟩, hF, hlen, hps, hser, _⟩ := hA
  obtain ⟨⟨tp2, c2, sp2, d2, rfl, hR2, hS2, hc2, hcm2, hd2, hdm2, _⟩, hF2, hlen2, hps2, hser2, _⟩ := hB; have HSM := Lib.hid (fun (W : World) (ho : Off [] w W) => same_any a.tree b.tree tp tp2 c c2 W (by omega) (by omega) (hR.off ho) (hR2.off ho)); unfold matchV at hr; unfold chkA at HCA HCB; obtain ⟨oa, hoa⟩ : ∃ oa, okArc a = oa := ⟨_, rfl⟩
  obtain ⟨ob, hob⟩ : ∃ ob, okArc b = ob := ⟨_, rfl⟩
  obtain ⟨ds, hds⟩ : ∃ ds, decide (a.tree = b.tree) = ds := ⟨_, rfl⟩
  rw [hoa] at HCA hr; rw [hob] at HCB hr; rw [hds] at HSM hr; have HCA := Lib.hid (fun W ho => HCA.out W ho (if oa then 0 else 90) rfl); have HCB := Lib.hid (fun W ho => HCB.out W ho (if ob then 0 else 90) rfl); obtain ⟨n, hn⟩ : ∃ n, a.tree.length = n := ⟨_, rfl⟩
  obtain ⟨m, hm⟩ : ∃ m, a.stamps.length = m := ⟨_, rfl⟩
  obtain ⟨n2, hn2⟩ : ∃ n2, b.tree.length = n2 := ⟨_, rfl⟩
  obtain ⟨m2, hm2⟩ : ∃ m2, b.stamps.length = m2 := ⟨_, rfl⟩
  obtain ⟨p1, hp1⟩ : ∃ p1, a.pair = p1 := ⟨_, rfl⟩
  obtain ⟨p2, hp2⟩ : ∃ p2, b.pair = p2 := ⟨_, rfl⟩
  obtain ⟨s1, hs1⟩ : ∃ s1, a.serial = s1 := ⟨_, rfl⟩
  obtain ⟨s2, hs2⟩ : ∃ s2, b.serial = s2 := ⟨_, rfl⟩
  rw [hn, hn2] at HSM; rw [hn, hm, hp1, hs1] at HCA ⊢; rw [hn2, hm2, hp2, hs2] at HCB ⊢; rw [hp1, hp2, hs1, hs2] at hr; clear hn hm hn2 hm2 hp1 hp2 hs1 hs2 hoa hob hds hR hS hR2 hS2 hc hcm hd hdm hc2 hcm2 hd2 hdm2 hF hF2 hlen hlen2 hps hps2 hser hser2 hl1 hl2 hT
  obtain ⟨W2, hW2⟩ : ∃ W2, (w.alloc (.cells #[.string p1, .int .i64 s1, .slice tp n c, .slice sp m d] 52)).alloc (.cells #[.string p2, .int .i64 s2, .slice tp2 n2 c2, .slice sp2 m2 d2] 52) = W2 := ⟨_, rfl⟩
  have HB1 := Lib.hid (show Blk W2 w.heap.size 52 #[.string p1, .int .i64 s1, .slice tp n c, .slice sp m d] by rw [← hW2]; exact (Blk.new w _ _).alloc _); have HB2 := Lib.hid (show Blk W2 (w.heap.size + 1) 52 #[.string p2, .int .i64 s2, .slice tp2 n2 c2, .slice sp2 m2 d2] by rw [← hW2]; exact Blk.new1 w _ _ _)
  have HO := Lib.hid (show Off [] w W2 by rw [← hW2]; exact ((Off.refl _ _).alloc _).alloc _); have HW2 := Lib.hid hW2; clear hW2
  cases oa
  · have hr : false = r := hr
    subst hr
    go_enter Tryz.func88, Tryz.ntmps88
    go_wp2_with fail
    rw [HW2.out]; refine (HCA.out _ HO.out).mono ?_; rintro e w1 ⟨rfl, ho1⟩; have HO1 := Lib.hid ho1; clear ho1; have k1 := HB1.out.off HO1.out (by simp); have k2 := HB2.out.off HO1.out (by simp); have e1 := k1.cell; have e2 := k2.cell; have l1 := k1.lt; have l2 := k2.lt; clear k1 k2
    go_wp2_with fail
    go_ret
    exact ⟨rfl, HO.out.trans_nil HO1.out⟩
  cases ob
  · have hr : false = r := hr
    subst hr
    go_enter Tryz.func88, Tryz.ntmps88
    go_wp2_with fail
    rw [HW2.out]; refine (HCA.out _ HO.out).mono ?_; rintro e w1 ⟨rfl, ho1⟩; have HO1 := Lib.hid ho1; clear ho1; have k1 := HB1.out.off HO1.out (by simp); have k2 := HB2.out.off HO1.out (by simp); have e1 := k1.cell; have e2 := k2.cell; have l1 := k1.lt; have l2 := k2.lt; clear k1 k2
    go_wp2_with fail
    refine (HCB.out _ (HO.out.trans_nil HO1.out)).mono ?_
    rintro e w2 ⟨rfl, ho2⟩; have HO2 := Lib.hid (HO1.out.trans_nil ho2); clear ho2 e1 e2 l1 l2; have k1 := HB1.out.off HO2.out (by simp); have k2 := HB2.out.off HO2.out (by simp); have e1 := k1.cell; have e2 := k2.cell; have l1 := k1.lt; have l2 := k2.lt; clear k1 k2
    go_wp2_with fail
    go_ret
    exact ⟨rfl, HO.out.trans_nil HO2.out⟩
  by_cases h1 : ¬ p1 = p2
  · have g1 : (p1.toList == p2.toList) = false := beq_eq_false_iff_ne.2 (fun h => h1 (toList_iff.1 h))
    rw [decide_eq_false h1] at hr; have hr : false = r := hr
    clear h1; subst hr
    go_enter Tryz.func88, Tryz.ntmps88
    go_wp2_with fail
    rw [HW2.out]; refine (HCA.out _ HO.out).mono ?_; rintro e w1 ⟨rfl, ho1⟩; have HO1 := Lib.hid ho1; clear ho1; have k1 := HB1.out.off HO1.out (by simp); have k2 := HB2.out.off HO1.out (by simp); have e1 := k1.cell; have e2 := k2.cell; have l1 := k1.lt; have l2 := k2.lt; clear k1 k2
    go_wp2_with fail
    refine (HCB.out _ (HO.out.trans_nil HO1.out)).mono ?_
    rintro e w2 ⟨rfl, ho2⟩; have HO2 := Lib.hid (HO1.out.trans_nil ho2); clear ho2 e1 e2 l1 l2; have k1 := HB1.out.off HO2.out (by simp); have k2 := HB2.out.off HO2.out (by simp); have e1 := k1.cell; have e2 := k2.cell; have l1 := k1.lt; have l2 := k2.lt; clear k1 k2
    go_wp2_with fail
    go_ret
    exact ⟨rfl, HO.out.trans_nil HO2.out⟩
  have h1 : p1 = p2 := Classical.not_not.1 h1
  subst h1; have g1 : (p1.toList == p1.toList) = true := beq_self_eq_true _
  rw [decide_eq_true (rfl : p1 = p1)] at hr
  by_cases h2 : ¬ s1 = s2
  · have g2 : (s1 == s2) = false := beq_eq_false_iff_ne.2 h2
    rw [decide_eq_false h2] at hr; have hr : false = r := hr
    subst hr
    go_enter Tryz.func88, Tryz.ntmps88
    go_wp2_with fail
    rw [HW2.out]; refine (HCA.out _ HO.out).mono ?_; rintro e w1 ⟨rfl, ho1⟩; have HO1 := Lib.hid ho1; clear ho1; have k1 := HB1.out.off HO1.out (by simp); have k2 := HB2.out.off HO1.out (by simp); have e1 := k1.cell; have e2 := k2.cell; have l1 := k1.lt; have l2 := k2.lt; clear k1 k2
    go_wp2_with fail
    refine (HCB.out _ (HO.out.trans_nil HO1.out)).mono ?_
    rintro e w2 ⟨rfl, ho2⟩; have HO2 := Lib.hid (HO1.out.trans_nil ho2); clear ho2 e1 e2 l1 l2; have k1 := HB1.out.off HO2.out (by simp); have k2 := HB2.out.off HO2.out (by simp); have e1 := k1.cell; have e2 := k2.cell; have l1 := k1.lt; have l2 := k2.lt; clear k1 k2
    go_wp2_with fail
    go_ret
    exact ⟨rfl, HO.out.trans_nil HO2.out⟩
  have h2 : s1 = s2 := Classical.not_not.1 h2
  subst h2; rw [decide_eq_true (rfl : s1 = s1)] at hr; have hr : ds = r := hr
  subst hr
  go_enter Tryz.func88, Tryz.ntmps88
  go_wp2_with fail
  rw [HW2.out]; refine (HCA.out _ HO.out).mono ?_; rintro e w1 ⟨rfl, ho1⟩; have HO1 := Lib.hid ho1; clear ho1; have k1 := HB1.out.off HO1.out (by simp); have k2 := HB2.out.off HO1.out (by simp); have e1 := k1.cell; have e2 := k2.cell; have l1 := k1.lt; have l2 := k2.lt; clear k1 k2
  go_wp2_with fail
  refine (HCB.out _ (HO.out.trans_nil HO1.out)).mono ?_
  rintro e w2 ⟨rfl, ho2⟩; have HO2 := Lib.hid (HO1.out.trans_nil ho2); clear ho2 e1 e2 l1 l2; have k1 := HB1.out.off HO2.out (by simp); have k2 := HB2.out.off HO2.out (by simp); have e1 := k1.cell; have e2 := k2.cell; have l1 := k1.lt; have l2 := k2.lt; clear k1 k2
  go_wp2_with fail
  refine (HSM.out _ (HO.out.trans_nil HO2.out)).mono ?_
  rintro e w3 ⟨rfl, ho3⟩; have HO3 := Lib.hid (HO2.out.trans_nil ho3); clear ho3 e1 e2 l1 l2
  go_wp2_with fail
  go_ret
  exact ⟨rfl, HO.out.trans_nil HO3.out⟩
end
section
open Go.RowKit Go.Op
theorem four_cv (w : World) (a b c d : Int) : (convert 96 9 (.slice (some ⟨w.heap.size, 0, none⟩) 4 4)).run Tryz.prog (w.alloc (.cells #[.int .u8 a, .int .u8 b, .int .u8 c, .int .u8 d] 5)) =
    .ok (.string (strOfNums [a, b, c, d])) (w.alloc (.cells #[.int .u8 a, .int .u8 b, .int .u8 c, .int .u8 d] 5)) := by
  refine run_convert_bytes_arg _ 96 5 Tryz.underlying96 Tryz.underlying5 w.heap.size 0 4 4 [a, b, c, d] rfl (fun i hi => ?_) 9 Tryz.underlying9
  rw [Nat.zero_add, (Blk.new w _ _).cell i]
  match i, hi with
  | 0, _ | 1, _ | 2, _ | 3, _ => rfl
  | n + 4, h => omega
theorem four_nums (n : Nat) : strOfNums [(n : Int) / 16777216 % 256, (n : Int) / 65536 % 256, (n : Int) / 256 % 256, (n : Int) % 256] = bs (fourB n) := by
  have e : ∀ k : Nat, UInt8.ofNat ((k : Int) % 256).toNat = UInt8.ofNat k := fun k => by
    apply UInt8.toNat_inj.1
    simp only [UInt8.toNat_ofNat']
    omega
  have h1 := e (n / 16777216); have h2 := e (n / 65536); have h3 := e (n / 256); have h4 := e n
  apply str_inj
  rw [str_bs]
  show [UInt8.ofNat ((n : Int) / 16777216 % 256).toNat, UInt8.ofNat ((n : Int) / 65536 % 256).toNat, UInt8.ofNat ((n : Int) / 256 % 256).toNat, UInt8.ofNat ((n : Int) % 256).toNat] = fourB n
  unfold fourB; rw [← h1, ← h2, ← h3, ← h4]
  rfl
set_option maxRecDepth 100000 in
theorem four_any (n : Nat) (w : World) : Calls Tryz.prog 200 #[.int .u32 (n : Int)] w fun e w' => e = .returned (.string (bs (fourB n))) ∧ Off [] w w' := by
  have hcv := four_cv w; have HN := Lib.hid (four_nums n)
  go_enter Tryz.func200, Tryz.ntmps200
  go_wp2_with fail
  go_ret
  exact ⟨by rw [← HN.out]; rfl, (Off.refl _ _).alloc _⟩
theorem bs_append (a b : Str) : bs a ++ bs b = bs (a ++ b) := str_inj (by rw [str_append, str_bs, str_bs, str_bs])
theorem add_bs (wx : World) (a b : Str) (h : a.length + b.length ≤ 1000000000000) : (Op.stringOp .add (bs a) (bs b)).run Tryz.prog wx = .ok (.string (bs (a ++ b))) wx := by
  rw [run_string_add_sum wx _ _ (by rw [bs_size, bs_size]; omega), bs_append]
set_option maxRecDepth 100000 in
theorem pack_any (p : Str) (w : World) (hp : p.length ≤ 1048576) : Calls Tryz.prog 145 #[.string (bs p)] w fun e w' => e = .returned (.tuple #[.string (bs (packB p)), .int .i64 0]) ∧ Off [] w w' := by
  have hz : (bs p).size = p.length := bs_size p
  obtain ⟨P, hP⟩ : ∃ P, bs p = P := ⟨_, rfl⟩
  have hgt : ¬ (1048576 : Int) < (P.size : Int) := by rw [← hP, hz]; omega
  have h4 := fourB_len p.length; obtain ⟨f, hf⟩ : ∃ f, fourB p.length = f := ⟨_, rfl⟩
  obtain ⟨c, hc⟩ : ∃ c, (Crc.crc (f ++ p)).toNat = c := ⟨_, rfl⟩
  have h5 := fourB_len c; obtain ⟨g, hg⟩ : ∃ g, fourB c = g := ⟨_, rfl⟩
  have ha1 : ∀ wx : World, (Op.stringOp .add (bs f) P).run Tryz.prog wx = .ok (.string (bs (f ++ p))) wx := fun wx => by rw [← hP]; exact add_bs wx f p (by rw [← hf]; omega)
  have ha2 : ∀ wx : World, (Op.stringOp .add (bs f) (bs g)).run Tryz.prog wx = .ok (.string (bs (f ++ g))) wx := fun wx => add_bs wx f g (by rw [← hf, ← hg]; omega)
  have ha3 : ∀ wx : World, (Op.stringOp .add (bs (f ++ g)) P).run Tryz.prog wx = .ok (.string (bs (f ++ g ++ p))) wx := fun wx => by rw [← hP]; exact add_bs wx (f ++ g) p (by rw [← hf, ← hg, List.length_append]; omega)
  have HF1 := Lib.hid (fun (W : World) => four_any p.length W); have HF2 := Lib.hid (fun (W : World) => four_any c W); have HCR := Lib.hid (fun (W : World) => crc_any (bs (f ++ p)) W (by rw [bs_size, List.length_append, ← hf]; omega)); rw [str_bs, hc] at HCR; rw [hf] at HF1; rw [hg] at HF2; have HE := Lib.hid (show f ++ (g ++ p) = packB p by rw [← hg, ← hc, ← hf]; rfl)
  have hcv : IntKind.u32.wrap (P.size : Int) = (p.length : Int) := by rw [← hP, hz, IntKind.wrap_u32']; omega
  have hcv2 : (P.size : Int) % 4294967296 = (p.length : Int) := by rw [← hP, hz]; omega
  rw [hP]; clear hP hz hf hc hg h4 h5 hp
  go_enter Tryz.func145, Tryz.ntmps145
  go_wp2_with fail
  try simp only [hcv2]
  refine (HF1.out _).mono ?_
  rintro e w1 ⟨rfl, ho1⟩; have HO1 := Lib.hid ho1; clear ho1
  go_wp2_with fail
  refine (HCR.out _).mono ?_
  rintro e w2 ⟨rfl, ho2⟩; have HO2 := Lib.hid (HO1.out.trans_nil ho2); clear ho2
  go_wp2_with fail
  refine (HF2.out _).mono ?_
  rintro e w3 ⟨rfl, ho3⟩; have HO3 := Lib.hid (HO2.out.trans_nil ho3); clear ho3
  go_wp2_with fail
  go_ret2
  exact ⟨by rw [← HE.out]; rfl, HO3.out⟩
structure EWTo (B b : Nat) (l : Str) (W w' : World) : Prop where
  wr : WrAt B b l w'
  below : Below B W w'
  keep : KeepB b W w'
  sz : B ≤ w'.heap.size
section
variable {B b : Nat} {l : Str} {W : World}
theorem EWTo.mk_ {ts : Str} {w' : World} {cs : Array Value} {t : TypeId} (hB : B ≤ W.heap.size) (h : WrAt B b (l ++ ts) w' ∧ Below B (W.alloc (.cells cs t)) w' ∧ KeepB b (W.alloc (.cells cs t)) w') : EWTo B b (l ++ ts) W w' := by
  obtain ⟨h1, h2, h3⟩ := h; have ho : Off [] W (W.alloc (.cells cs t)) := (Off.refl _ _).alloc _
  exact ⟨h1, (ho.below.mono hB).trans h2, (KeepB.off ho).trans h3, Nat.le_trans hB (Nat.le_trans ho.size h2.size)⟩
theorem texts_1 (x : ByteArray) (h : WrAt B b l W) (hB : B ≤ W.heap.size) (hx : x.size ≤ 1048576) (hl : l.length ≤ 1000000000) :
    Calls Tryz.prog 143 #[.pointer (some ⟨b, 0, none⟩), .slice (some ⟨W.heap.size, 0, none⟩) 1 1] (W.alloc (.cells #[.string x] 9)) fun e w' => e = .returned (.tuple #[]) ∧ EWTo B b (l ++ txtB x) W w' := by
  have ho : Off [] W (W.alloc (.cells #[.string x] 9)) := (Off.refl _ _).alloc _
  refine (wtexts_any B b W.heap.size 1 1 l [x] (W.alloc (.cells #[.string x] 9)) (h.off ho hB) (Nat.le_trans hB ho.size) (Blk.new W _ _) rfl (by omega) (by simpa using hx) hl).mono ?_
  rintro e w' ⟨he, hT⟩; rw [show [x].flatMap txtB = txtB x by simp] at hT; exact ⟨he, EWTo.mk_ hB hT⟩
theorem texts_2 (x y : ByteArray) (h : WrAt B b l W) (hB : B ≤ W.heap.size) (hx : x.size ≤ 1048576) (hy : y.size ≤ 1048576) (hl : l.length ≤ 1000000000) :
    Calls Tryz.prog 143 #[.pointer (some ⟨b, 0, none⟩), .slice (some ⟨W.heap.size, 0, none⟩) 2 2] (W.alloc (.cells #[.string x, .string y] 9)) fun e w' => e = .returned (.tuple #[]) ∧ EWTo B b (l ++ (txtB x ++ txtB y)) W w' := by
  have ho : Off [] W (W.alloc (.cells #[.string x, .string y] 9)) := (Off.refl _ _).alloc _
  refine (wtexts_any B b W.heap.size 2 2 l [x, y] (W.alloc (.cells #[.string x, .string y] 9)) (h.off ho hB) (Nat.le_trans hB ho.size) (Blk.new W _ _) rfl (by omega) (by simp; exact ⟨hx, hy⟩) hl).mono ?_
  rintro e w' ⟨he, hT⟩; rw [show [x, y].flatMap txtB = txtB x ++ txtB y by simp] at hT; exact ⟨he, EWTo.mk_ hB hT⟩
theorem nums_2 (x y : Int) (h : WrAt B b l W) (hB : B ≤ W.heap.size) (hx : 0 ≤ x ∧ x ≤ 9223372036854775807) (hy : 0 ≤ y ∧ y ≤ 9223372036854775807) (hl : l.length ≤ 1000000000) :
    Calls Tryz.prog 144 #[.pointer (some ⟨b, 0, none⟩), .slice (some ⟨W.heap.size, 0, none⟩) 2 2] (W.alloc (.cells #[.int .i64 x, .int .i64 y] 3)) fun e w' => e = .returned (.tuple #[]) ∧ EWTo B b (l ++ (numB x ++ numB y)) W w' := by
  have ho : Off [] W (W.alloc (.cells #[.int .i64 x, .int .i64 y] 3)) := (Off.refl _ _).alloc _
  refine (wnums_any B b W.heap.size 2 2 l [x, y] (W.alloc (.cells #[.int .i64 x, .int .i64 y] 3)) (h.off ho hB) (Nat.le_trans hB ho.size) (Blk.new W _ _) rfl (by omega) (by intro t ht; simp at ht; rcases ht with rfl | rfl; exact hx; exact hy) hl).mono ?_
  rintro e w' ⟨he, hT⟩; rw [show [x, y].flatMap numB = numB x ++ numB y by simp] at hT; exact ⟨he, EWTo.mk_ hB hT⟩
theorem nums_3 (x y z : Int) (h : WrAt B b l W) (hB : B ≤ W.heap.size) (hx : 0 ≤ x ∧ x ≤ 9223372036854775807) (hy : 0 ≤ y ∧ y ≤ 9223372036854775807) (hz : 0 ≤ z ∧ z ≤ 9223372036854775807) (hl : l.length ≤ 1000000000) :
    Calls Tryz.prog 144 #[.pointer (some ⟨b, 0, none⟩), .slice (some ⟨W.heap.size, 0, none⟩) 3 3] (W.alloc (.cells #[.int .i64 x, .int .i64 y, .int .i64 z] 3)) fun e w' => e = .returned (.tuple #[]) ∧ EWTo B b (l ++ (numB x ++ (numB y ++ numB z))) W w' := by
  have ho : Off [] W (W.alloc (.cells #[.int .i64 x, .int .i64 y, .int .i64 z] 3)) := (Off.refl _ _).alloc _
  refine (wnums_any B b W.heap.size 3 3 l [x, y, z] (W.alloc (.cells #[.int .i64 x, .int .i64 y, .int .i64 z] 3)) (h.off ho hB) (Nat.le_trans hB ho.size) (Blk.new W _ _) rfl (by omega) (by intro t ht; simp at ht; rcases ht with rfl | rfl | rfl; exact hx; exact hy; exact hz) hl).mono ?_
  rintro e w' ⟨he, hT⟩; rw [show [x, y, z].flatMap numB = numB x ++ (numB y ++ numB z) by simp] at hT; exact ⟨he, EWTo.mk_ hB hT⟩
end
end
section
open Go.RowKit Go.Op
structure ArcOk (a : Arc) : Prop where
  ok : okArc a = true
  len : a.tree.length ≤ 1000
  lens : a.stamps.length = a.tree.length
  pair : 1 ≤ a.pair.size ∧ a.pair.size ≤ 64
  ser : 0 ≤ a.serial ∧ a.serial ≤ 9223372036854775807
  node : ∀ n ∈ a.tree, n.path.size ≤ 400 ∧ n.data.size ≤ 64 ∧ (0 ≤ n.kind ∧ n.kind ≤ 3) ∧ (0 ≤ n.mode ∧ n.mode ≤ 511)
  stm : ∀ s ∈ a.stamps, (0 ≤ s.1 ∧ s.1 ≤ 9223372036854775807) ∧ (0 ≤ s.2.1 ∧ s.2.1 ≤ 9223372036854775807) ∧ (0 ≤ s.2.2 ∧ s.2.2 ≤ 9223372036854775807)
  tree : okTree a.tree = true
theorem okTree_rightA {t : List Node} (h : okTree t = true) {n : Node} (hn : n ∈ t) : rightN n = true := by
  obtain ⟨i, hi, rfl⟩ := List.getElem_of_mem hn; have := okTree_next h i hi; unfold okNext at this; simp only [Bool.and_eq_true] at this; exact this.1.1.2
theorem arcOk {w : World} {v : Value} {a : Arc} (hA : ArcAt w v a) (h : okArc a = true) : ArcOk a := by
  have h0 := h; unfold okArc bareV at h; simp only [Bool.and_eq_true, decide_eq_true_eq, List.all_eq_true] at h; obtain ⟨h1, h2, h3, ⟨h4, h5⟩, h6, h7⟩ := h; refine ⟨h0, okTree_len h4, h6, ⟨h1, h2⟩, ⟨h3, hA.ser.2⟩, fun n hn => ?_, fun s hs => ?_, h4⟩
  · have hr := okTree_rightA h4 hn
    have hb := h5 n hn; have hp := okTree_small h4 hn; unfold rightN at hr; unfold bareN digitsV at hb
    by_cases k1 : n.kind = 1
    · rw [if_pos k1] at hr
      simp only [Bool.and_eq_true, decide_eq_true_eq] at hr
      have : n.data.size = 64 := by
        simp only [k1, Bool.or_eq_true, Bool.and_eq_true, decide_eq_true_eq] at hb
        rcases hb with hb | hb
        · omega
        exact hb.1
      omega
    rw [if_neg k1] at hr
    by_cases k2 : n.kind = 2
    · rw [if_pos k2] at hr
      simp only [Bool.and_eq_true, decide_eq_true_eq] at hr
      omega
    rw [if_neg k2] at hr
    by_cases k3 : n.kind = 3
    · rw [if_pos k3] at hr
      simp only [Bool.and_eq_true, decide_eq_true_eq] at hr
      have : n.data.size = 64 := by
        simp only [k3, Bool.or_eq_true, Bool.and_eq_true, decide_eq_true_eq] at hb
        rcases hb with hb | hb
        · omega
        exact hb.1
      omega
    rw [if_neg k3] at hr; cases hr
  have h8 := h7 s hs; unfold stmOk at h8; simp only [Bool.and_eq_true, decide_eq_true_eq] at h8; have h9 := hA.st s hs; exact ⟨⟨h8.1, h9.1.2⟩, ⟨h8.2.1, h9.2.1.2⟩, h8.2.2, h9.2.2.2⟩
theorem txtB_le (s : ByteArray) (k : Nat) (h : s.size ≤ k) (hk : k ≤ 1048576) : (txtB s).length ≤ k + 6 := by
  unfold txtB; rw [List.length_append, str_size]; have := numLen (n := s.size) (by omega); omega
theorem numB_le {n : Int} (h : 0 ≤ n ∧ n ≤ 9223372036854775807) : (numB n).length ≤ 9 := Pl.num_len 8 _ (by omega)
theorem nodeB_le {a : Arc} (h : ArcOk a) {x : Node × (Int × Int × Int)} (hx : x ∈ itemsA a) : (nodeB x).length ≤ 530 := by
  obtain ⟨n, s⟩ := x; have hm := List.of_mem_zip hx; obtain ⟨n1, n2, n3, n4⟩ := h.node n hm.1; obtain ⟨s1, s2, s3⟩ := h.stm s hm.2; have e1 := txtB_le n.path 400 n1 (by omega); have e2 := txtB_le n.data 64 n2 (by omega); have e3 := numB_le (n := n.kind) (by omega); have e4 := numB_le (n := n.mode) (by omega); have e5 := numB_le s1; have e6 := numB_le s2; have e7 := numB_le s3; unfold nodeB
  simp only [List.length_append] at *
  omega
theorem itemsB_le {a : Arc} (h : ArcOk a) (k : Nat) : (itemsB ((itemsA a).take k)).length ≤ k * 530 := by
  have key : ∀ (k : Nat) (L : List (Node × (Int × Int × Int))), L.length ≤ k → (∀ x ∈ L, (nodeB x).length ≤ 530) → (itemsB L).length ≤ k * 530 := fun k => by
    induction k with
    | zero => intro L hL _; rw [List.length_eq_zero_iff.1 (Nat.le_zero.1 hL)]; simp [itemsB]
    | succ k ih =>
      intro L hL hs
      cases L with
      | nil => simp [itemsB]
      | cons x L =>
        have h1 := ih L (by simpa using hL) (fun t ht => hs t (List.mem_cons_of_mem _ ht)); have h2 := hs x (List.mem_cons_self ..); unfold itemsB at h1 ⊢; rw [List.flatMap_cons, List.length_append, Nat.succ_mul]; omega
  exact key k _ (by simp; omega) (fun x hx => nodeB_le h (List.mem_of_mem_take hx))
def headB (a : Arc) : Str := txtB magicB ++ (txtB a.pair ++ (numB a.serial ++ numB a.tree.length))
theorem bodyB_eq (a : Arc) : bodyB a = headB a ++ itemsB (itemsA a) := by unfold bodyB headB; simp only [List.append_assoc]
theorem headB_le {a : Arc} (h : ArcOk a) : (headB a).length ≤ 200 := by
  have e1 := txtB_le magicB 8 (by decide) (by omega); have e2 := txtB_le a.pair 64 h.pair.2 (by omega); have e3 := numB_le h.ser; have e4 := numB_le (n := a.tree.length) (by have := h.len; omega); unfold headB; simp only [List.length_append]; omega
theorem itemsA_len {a : Arc} (h : ArcOk a) : (itemsA a).length = a.tree.length := by unfold itemsA; rw [List.length_zip, h.lens, Nat.min_self]
theorem bodyB_le {a : Arc} (h : ArcOk a) : (bodyB a).length ≤ 531000 := by
  rw [bodyB_eq, List.length_append]; have h1 := headB_le h; have h2 := itemsB_le h a.tree.length; rw [List.take_of_length_le (by rw [itemsA_len h]; exact Nat.le_refl _)] at h2; have h3 := h.len; omega
theorem bodyB_ne (a : Arc) : bodyB a ≠ [] := by
  unfold bodyB txtB; have := Pl.num_pos magicB.size
  intro h
  have := congrArg List.length h; simp only [List.length_append, List.length_nil] at this; omega
structure EnW (w W : World) (B : Nat) (va : Array Value) (l : Str) : Prop where
  wr : WrAt B B l W
  off : Off [] w W
  sz : B < W.heap.size
  gB : w.heap.size < B
  arc : Blk W w.heap.size 52 va
section
variable {w W W' : World} {B : Nat} {va : Array Value} {l : Str}
theorem EnW.off_ (h : EnW w W B va l) (ho : Off [] W W') : EnW w W' B va l :=
  ⟨h.wr.off ho (Nat.le_of_lt h.sz), h.off.trans_nil ho, Nat.lt_of_lt_of_le h.sz ho.size, h.gB, h.arc.off ho (by simp)⟩
theorem off_below {w W W' : World} {B : Nat} (h : Off [] w W) (k : Below B W W') (hB : w.heap.size ≤ B) : Off [] w W' :=
  ⟨k.os.trans h.os, k.tape.trans h.tape, k.output.trans h.output, Nat.le_trans h.size k.size, fun i hi hn => (k.block i (Nat.lt_of_lt_of_le hi hB)).trans (h.block i hi hn)⟩
theorem EnW.next {l' : Str} (h : EnW w W B va l) (k : EWTo B B l' W W') : EnW w W' B va l' :=
  ⟨k.wr, off_below h.off k.below (Nat.le_of_lt h.gB), Nat.lt_of_lt_of_le h.sz k.below.size, h.gB, (k.below.block _ h.gB).trans h.arc⟩
end
set_option maxRecDepth 100000 in
set_option maxHeartbeats 8000000 in
theorem encode_any (v : Value) (a : Arc) (w : World) (hA : ArcAt w v a) (hT : Tabs w) (hk : okArc a = true) :
    Calls Tryz.prog 89 #[v] w fun e w' => e = .returned (.tuple #[.string (encV a), .int .i64 0]) ∧ Off [] w w' := by
  have hok := arcOk hA hk; have HOK := Lib.hid hok; have HCK := Lib.hid (fun (W : World) (ho : Off [] w W) => acheck_any v a W (hA.off ho) (hT.off ho) 0 (by unfold chkA; rw [hk]; rfl)); obtain ⟨⟨tp, c, sp, d, rfl, hR, hS, hc, hcm, hd, hdm, _⟩, hF, hlen, hps, hser, _⟩ := hA; have hln := hok.lens; obtain ⟨n, hn⟩ : ∃ n, a.tree.length = n := ⟨_, rfl⟩
  rw [hn] at hln; have HN := Lib.hid (And.intro hn hln); rw [hn, hln] at HCK ⊢; have hnb : n ≤ 1000 := by have := hok.len; omega
  have hpp := hok.pair; have hss := hok.ser; obtain ⟨pr, hpr⟩ : ∃ pr, a.pair = pr := ⟨_, rfl⟩
  obtain ⟨sr, hsr⟩ : ∃ sr, a.serial = sr := ⟨_, rfl⟩
  have HPR := Lib.hid (And.intro hpr hsr); rw [hpr] at HCK hpp ⊢; rw [hsr] at HCK hss ⊢; have HR := Lib.hid (And.intro hR hS); clear hR hS hF hT hlen hps hser hc hcm hd hdm hk hok hn hln hpr hsr
  go_enter Tryz.func89, Tryz.ntmps89
  go_wp2_with fail
  refine (HCK.out _ ((Off.refl _ _).alloc _)).mono ?_
  rintro e w1 ⟨rfl, ho1⟩; have hB1 := (Blk.new w 52 #[.string pr, .int .i64 sr, .slice tp n c, .slice sp n d]).off ho1 (by simp); have hO1 : Off [] w w1 := ((Off.refl _ _).alloc _).trans_nil ho1
  have hsz1 := hB1.lt; have HE0 := Lib.hid (show EnW w (w1.alloc (.cells #[.pointer none, .slice none 0 0] 207)) w1.heap.size #[.string pr, .int .i64 sr, .slice tp n c, .slice sp n d] [] from
    ⟨WrAt.new w1, hO1.alloc _, by simp, hsz1, hB1.alloc _⟩)
  have e1 := hB1.cell; clear ho1 HCK hB1 hO1
  go_upto_region 4 with fail
  refine code_gen (fun W => Hid (EnW w W w1.heap.size #[.string pr, .int .i64 sr, .slice tp n c, .slice sp n d] [])) HE0 ?_
  rintro W4 HE4; obtain ⟨B, hB⟩ : ∃ B, w1.heap.size = B := ⟨_, rfl⟩
  rw [hB] at HE4; rw [hB]; clear HE0 hB e1 hsz1; have e4 := HE4.out.arc.cell; have l4 := HE4.out.arc.lt
  go_wp2_with fail
  refine (texts_2 ⟨#[104, 97, 119, 115, 101, 114, 32, 49]⟩ pr HE4.out.wr (Nat.le_of_lt HE4.out.sz) (by decide) (by omega) (by simp)).mono ?_
  rintro e w5 ⟨rfl, hT5⟩; have HE5 := Lib.hid (HE4.out.next hT5); clear hT5 e4 l4 HE4; have e5 := HE5.out.arc.cell; have l5 := HE5.out.arc.lt
  go_wp2_with fail
  refine (nums_2 sr (n : Int) HE5.out.wr (Nat.le_of_lt HE5.out.sz) hss (by omega) ?zl).mono ?_
  case zl =>
    have e1 := txtB_le magicB 8 (by decide) (by omega); have e2 := txtB_le pr 64 hpp.2 (by omega); unfold magicB at e1; simp only [List.length_append, List.length_nil]; omega
  rintro e w6 ⟨rfl, hT6⟩; have HE6 := Lib.hid (show EnW w w6 B #[.string pr, .int .i64 sr, .slice tp n c, .slice sp n d] (headB a ++ itemsB ((itemsA a).take 0)) from by
    have h := HE5.out.next hT6; have e : headB a ++ itemsB ((itemsA a).take 0) = [] ++ (txtB ⟨#[104, 97, 119, 115, 101, 114, 32, 49]⟩ ++ txtB pr) ++ (numB sr ++ numB (n : Int)) := by
      unfold headB magicB itemsB; rw [HPR.out.1, HPR.out.2, HN.out.1]; simp
    rw [e]; exact h)
  clear hT6 e5 l5 HE5; have e6 := HE6.out.arc.cell; have l6 := HE6.out.arc.lt
  go_wp2_with fail
  go_loopw [26] (fun x wr => ∃ i : Nat, x = .int .i64 i ∧ i ≤ n ∧ Hid (EnW w wr B #[.string pr, .int .i64 sr, .slice tp n c, .slice sp n d] (headB a ++ itemsB ((itemsA a).take i)))) (fun x _ => n - (intOf x).toNat)
  case atStart => exact ⟨0, rfl, by omega, HE6⟩
  case round =>
    clear HE6 e6 l6; obtain ⟨i, rfl, hi, HE⟩ := hrel
    by_cases hlt : i < n
    · have hil : i < a.tree.length := by rw [HN.out.1]; exact hlt
      have hjl : i < a.stamps.length := by rw [HN.out.2]; exact hlt
      have hx := List.getElem?_eq_getElem hil; have hy := List.getElem?_eq_getElem hjl; obtain ⟨ad, rfl, hat, hab⟩ := (HR.out.1.off HE.out.off).get i hil; obtain ⟨sd, rfl, sat, sab⟩ := (HR.out.2.off HE.out.off).get i hjl; have hnd := HOK.out.node _ (List.getElem_mem hil); have hst := HOK.out.stm _ (List.getElem_mem hjl)
      have hlen : (headB a ++ itemsB ((itemsA a).take i)).length ≤ 532000 := by
        rw [List.length_append]; have h1 := headB_le HOK.out; have h2 := itemsB_le HOK.out i; omega
      have HX : Hid (itemsB ((itemsA a).take (i + 1)) = itemsB ((itemsA a).take i) ++ nodeB (a.tree[i], a.stamps[i])) := by
        have e : (itemsA a)[i]? = some (a.tree[i], a.stamps[i]) := by unfold itemsA; rw [List.getElem?_zip_eq_some]; exact ⟨hx, hy⟩
        show _ = _
        unfold itemsB; rw [List.take_add_one, e, List.flatMap_append]; simp
      have HY := Lib.hid hy; generalize a.tree[i] = x at hat hnd HX; generalize a.stamps[i] = s at sat hst HX HY; obtain ⟨s1, s2, s3⟩ := s; obtain ⟨L, hL⟩ : ∃ L, headB a ++ itemsB ((itemsA a).take i) = L := ⟨_, rfl⟩
      rw [hL] at HE hlen; have HL := Lib.hid hL; have c0 := hat.path; have c1 := hat.kind; have c2 := hat.data; have c3 := hat.mode; have hltI : (i : Int) < (n : Int) := by omega
      have HSAT := Lib.hid sat; have ex1 := txtB_le x.path 400 hnd.1 (by omega); have ex2 := txtB_le x.data 64 hnd.2.1 (by omega); have ex3 := numB_le (n := x.kind) (by have := hnd.2.2.1; omega); have ex4 := numB_le (n := x.mode) (by have := hnd.2.2.2; omega); have HND := Lib.hid (And.intro hnd (And.intro hst (And.intro hlen (And.intro ex1 (And.intro ex2 (And.intro ex3 ex4))))))
      have HHAB := Lib.hid (And.intro hab sab); clear hx hy hil hjl hat sat hnd hst hlen hL ex1 ex2 ex3 ex4 hab sab
      go_upto_region 9 with fail
      refine code_gen (fun W => Hid (EnW w W B #[.string pr, .int .i64 sr, .slice (some ad) n c, .slice (some sd) n d] L ∧ Blk W wr.heap.size 30 #[.string x.path, .int .i64 x.kind, .string x.data, .int .i64 x.mode] ∧ Off [] wr W)) (Lib.hid ⟨HE.out.off_ ((Off.refl _ _).alloc _), Blk.new wr _ _, (Off.refl _ _).alloc _⟩) ?_
      rintro W9 HE9; obtain ⟨gn, hgn⟩ : ∃ gn, wr.heap.size = gn := ⟨_, rfl⟩
      rw [hgn] at HE9; rw [hgn]; have hgB : gn ≠ B := by have := HE.out.sz; omega
      have HGB := Lib.hid hgB; clear c0 c1 c2 c3 hgn hgB; have n9 := HE9.out.2.1.cell; have m9 := HE9.out.2.1.lt
      go_wp2_with fail
      refine (texts_1 x.path HE9.out.1.wr (Nat.le_of_lt HE9.out.1.sz) (by have := HND.out.1.1; omega) (by have := HND.out.2.2.1; omega)).mono ?_
      rintro e w10 ⟨rfl, hT⟩; have HE10 := Lib.hid (And.intro (HE9.out.1.next hT) (hT.keep _ _ _ HE9.out.2.1 (by decide) HGB.out)); clear hT n9 m9; have n10 := HE10.out.2.cell; have m10 := HE10.out.2.lt
      go_wp2_with fail
      refine (nums_2 x.kind x.mode HE10.out.1.wr (Nat.le_of_lt HE10.out.1.sz) (by have := HND.out.1.2.2.1; omega) (by have := HND.out.1.2.2.2; omega) (by have := HND.out.2.2; simp only [List.length_append]; omega)).mono ?_
      rintro e w11 ⟨rfl, hT⟩; have HE11 := Lib.hid (And.intro (HE10.out.1.next hT) (hT.keep _ _ _ HE10.out.2 (by decide) HGB.out)); clear hT n10 m10; have n11 := HE11.out.2.cell; have m11 := HE11.out.2.lt
      go_wp2_with fail
      refine (texts_1 x.data HE11.out.1.wr (Nat.le_of_lt HE11.out.1.sz) (by have := HND.out.1.2.1; omega) (by have := HND.out.2.2; simp only [List.length_append]; omega)).mono ?_
      rintro e w12 ⟨rfl, hT⟩; have HE12 := Lib.hid (HE11.out.1.next hT); clear hT n11 m11; have e12 := HE12.out.arc.cell; have l12 := HE12.out.arc.lt; have hsr : StmAt w12 (sd.add (i * 3)) (s1, s2, s3) := by
        obtain ⟨a', ha', _, hn'⟩ := (HR.out.2.off HE12.out.off) (fun e => by have := HY.out; rw [e] at this; simp at this)
        cases ha'
        exact hn' i _ HY.out
      have c0 := hsr.i0; have c1 := hsr.i1; have c2 := hsr.i2; clear hsr
      go_upto_region 12 with fail
      go_still_tail 18, (by kernel_rfl)
      change wpList _ _ _ _ _ w12.drew
      go_wp2_with fail
      have HE12' := Lib.hid (HE12.out.off_ (Off.refl [] w12).drew); refine (nums_3 s1 s2 s3 HE12'.out.wr (Nat.le_of_lt HE12'.out.sz) HND.out.2.1.1 HND.out.2.1.2.1 HND.out.2.1.2.2 (by have := HND.out.2.2; simp only [List.length_append]; omega)).mono ?_; rintro e w13 ⟨rfl, hT⟩; have HE13 := Lib.hid (HE12'.out.next hT); clear hT e12 l12 c0 c1 c2
      go_wp2_with fail
      refine ⟨⟨i + 1, by congr 1, by omega, Lib.hid ?_⟩, by simp only [intOf]; omega⟩
      rw [HX.out, ← List.append_assoc, HL.out]; have h := HE13.out; simp only [List.append_assoc] at h ⊢; unfold nodeB; simp only [List.append_assoc]; exact h
    obtain rfl : i = n := by omega
    rw [List.take_of_length_le (by rw [itemsA_len HOK.out, HN.out.1]; exact Nat.le_refl _), ← bodyB_eq] at HE; have hle := bodyB_le HOK.out; have hne := bodyB_ne a; have HEV := Lib.hid (show bs (packB (bodyB a)) = encV a from rfl); obtain ⟨L, hL⟩ : ∃ L, bodyB a = L := ⟨_, rfl⟩
    rw [hL] at HE hle hne HEV; clear hL
    go_wp2_with fail
    refine (wstring_any B B L _ HE.out.wr hne).mono ?_
    rintro e w2 ⟨rfl, hb2⟩; have HO2 := Lib.hid (off_below HE.out.off hb2 (Nat.le_of_lt HE.out.gB)); clear hb2 hne
    go_wp2_with fail
    refine (pack_any L _ (by omega)).mono ?_
    rintro e w3 ⟨rfl, ho3⟩; have HO3 := Lib.hid (HO2.out.trans_nil ho3); clear ho3; rw [HEV.out]
    go_wp2_with fail
    go_ret2
    exact ⟨rfl, HO3.out⟩
end
section
open Go.RowKit Go.Op
theorem num_cl (n : Int) (r : ByteArray) (w : World) : Calls Tryz.prog 257 #[.int .i64 n, .string r] w fun e w' => e = .returned (.tuple #[.string r, .int .i64 0]) ∧ w = w' := by
  go_enter Tryz.func257, Tryz.ntmps257
  go_wp2_with fail
  go_ret2
  exact ⟨rfl, rfl⟩
structure Rdr (w : World) (gR gB : Nat) (s : Str) : Prop where
  r : Blk w gR 314 #[.pointer (some ⟨gB, 0, none⟩)]
  b : Blk w gB 312 #[.string (bs s), .int .i64 0]
theorem Rdr.off {w w' : World} {gR gB : Nat} {s : Str} {l : List Nat} (h : Rdr w gR gB s) (ho : Off l w w') (h1 : gR ∉ l) (h2 : gB ∉ l) : Rdr w' gR gB s := ⟨h.r.off ho h1, h.b.off ho h2⟩
theorem Rdr.ne {w : World} {gR gB : Nat} {s : Str} (h : Rdr w gR gB s) : gR ≠ gB := h.r.ne_ h.b (by decide)
def RdrPost (w : World) (gR gB : Nat) (v : Value) (s : Str) (e : Ending) (w' : World) : Prop := e = .returned v ∧ Rdr w' gR gB s ∧ Off [gB] w w'
set_option maxRecDepth 100000 in
theorem newR_any (s : Str) (w : World) : Calls Tryz.prog 208 #[.string (bs s)] w fun e w' => ∃ gR gB, e = .returned (.pointer (some ⟨gR, 0, none⟩)) ∧ Rdr w' gR gB s ∧ Off [] w w' ∧ w.heap.size ≤ gR ∧ w.heap.size ≤ gB := by
  obtain ⟨S, hS⟩ : ∃ S, bs s = S := ⟨_, rfl⟩
  have HS := Lib.hid hS; rw [hS]; clear hS
  go_enter Tryz.func208, Tryz.ntmps208
  go_wp2_with fail
  go_ret
  refine ⟨w.heap.size + 1, w.heap.size, rfl, ⟨Blk.new1 w _ _ _, ?_⟩, ((Off.refl _ _).alloc _).alloc _, by omega, Nat.le_refl _⟩
  rw [HS.out]; exact (Blk.new w _ _).alloc _
set_option maxRecDepth 100000 in
theorem rNum (gR gB n : Nat) (r : Str) (w : World) (hn : n < 9223372036854775808) (hr : r.length < 549755813888) (h : Rdr w gR gB (Pl.num n ++ r)) :
    Calls Tryz.prog 210 #[.pointer (some ⟨gR, 0, none⟩)] w (RdrPost w gR gB (.int .i64 n) r) := by
  have H := Lib.hid h; have hcR := h.r.cell; have hcB := h.b.cell; have hlB := h.b.lt; have hsz : (bs (Pl.num n ++ r)).size < 1099511627776 := by
    rw [bs_size, List.length_append]; have := Pl.num_len 9 n (by omega); omega
  have HN := Lib.hid (number_any gB n (bs (Pl.num n ++ r)) r (.int .i64 0) w hn (str_bs _) hsz hcB); obtain ⟨R, hR⟩ : ∃ R, bs r = R := ⟨_, rfl⟩
  have HRR := Lib.hid hR; have HN2 := HN.out; unfold NumGot at HN2; rw [hR] at HN2; have HN := Lib.hid HN2; obtain ⟨S, hS⟩ : ∃ S, bs (Pl.num n ++ r) = S := ⟨_, rfl⟩
  rw [hS] at hcB; have HSS := Lib.hid hS; clear hsz hR HN2 h hS
  go_enter Tryz.func210, Tryz.ntmps210
  go_wp2_with (first | (go_at_call 305; refine HN.out.mono ?_; rintro e w1 ⟨rfl, ho⟩; have hB1 := H.out.b.off ho (by simp); have hcR1 := (H.out.r.off ho (by simp)).cell; have hcB1 := hB1.cell; have hfB1 := hB1.frozen) | (go_at_call 257; refine (num_cl _ _ _).mono ?_; rintro e w2 ⟨rfl, rfl⟩) | go_in)
  go_ret
  have ho := (by assumption : Off [] w _); have hne : gR ≠ gB := H.out.ne
  refine ⟨rfl, ⟨(H.out.r.off ho (by simp)).far hne _, ?_⟩, (ho.mono (by simp)).setCell (.inr (by simp)) _⟩
  rw [HRR.out]; exact (H.out.b.off ho (by simp)).set_ 0 _
theorem text_cl (gm gs : Nat) (m : Nat) (n : Nat) (r : ByteArray) (w : World) (hn : n ≤ m) (_hm : m < 1099511627776) (hr : n ≤ r.size) (_hr2 : r.size < 1099511627776) (hM : Blk w gm 3 #[.int .i64 m]) (hS : ∃ u, Blk w gs 9 #[u]) :
    Calls Tryz.prog 256 #[.int .i64 n, .string r, .pointer (some ⟨gm, 0, none⟩), .pointer (some ⟨gs, 0, none⟩)] w fun e w' => e = .returned (.tuple #[.string (r.extract n r.size), .int .i64 0]) ∧ w.setCell ⟨gs, 0, none⟩ (.string (r.extract 0 n)) = w' := by
  obtain ⟨u, hS⟩ := hS; have hcM := hM.cell; have hcS := hS.cell; have hfS := hS.frozen; have hlS := hS.lt
  go_enter Tryz.func256, Tryz.ntmps256
  go_wp2_with fail
  go_ret2
  exact ⟨rfl, rfl⟩
theorem bs_left (x : ByteArray) (r : Str) : (bs (str x ++ r)).extract 0 x.size = x := str_inj (by rw [str_extract, str_bs, List.drop_zero, Nat.sub_zero, ← str_size, List.take_left])
theorem bs_right (x : ByteArray) (r : Str) : (bs (str x ++ r)).extract x.size (bs (str x ++ r)).size = bs r := str_inj (by
  rw [str_extract, str_bs, str_bs, bs_size, List.length_append, ← str_size, List.drop_left, List.take_of_length_le (by omega)])
theorem take_text (gR gB gm gs m : Nat) (x : ByteArray) (r : Str) (w : World) (hx : x.size ≤ m) (hm : m < 2097152) (hr : r.length < 274877906944) (h : Rdr w gR gB (Pl.num x.size ++ (str x ++ r)))
   (hM : Blk w gm 3 #[.int .i64 m]) (hS : Blk w gs 9 #[.string ⟨#[]⟩]) :
    Calls Tryz.prog 255 #[.pointer (some ⟨gR, 0, none⟩), .func (.func 256) #[] #[.pointer (some ⟨gm, 0, none⟩), .pointer (some ⟨gs, 0, none⟩)]] w fun e w' => e = .returned (.int .i64 x.size) ∧ Rdr w' gR gB r ∧ Blk w' gs 9 #[.string x] ∧ Off [gB, gs] w w' := by
  have H := Lib.hid h; have hcR := h.r.cell; have hcB := h.b.cell; have hlB := h.b.lt; have hlR := h.r.lt; have hne : gR ≠ gB := h.ne
  have hne1 : gR ≠ gs := h.r.ne_ hS (by decide)
  have hne2 : gB ≠ gs := h.b.ne_ hS (by decide)
  have HNE := Lib.hid (And.intro hne (And.intro hne1 hne2)); have hxs : (str x).length = x.size := str_size x
  have hsz : (bs (Pl.num x.size ++ (str x ++ r))).size < 1099511627776 := by
    rw [bs_size, List.length_append, List.length_append]; have := Pl.num_len 9 x.size (by omega); omega
  have HN := (number_any gB x.size (bs (Pl.num x.size ++ (str x ++ r))) (str x ++ r) (.int .i64 0) w (by omega) (str_bs _) hsz hcB); unfold NumGot at HN; have hz : (bs (str x ++ r)).size = x.size + r.length := by rw [bs_size, List.length_append, hxs]
  have E1 := Lib.hid (bs_right x r); have E2 := Lib.hid (bs_left x r); have HCL := Lib.hid (fun (W : World) (h1 : Blk W gm 3 #[.int .i64 m]) (h2 : ∃ u, Blk W gs 9 #[u]) => text_cl gm gs m x.size (bs (str x ++ r)) W hx (by omega) (by rw [hz]; omega) (by rw [hz]; omega) h1 h2); obtain ⟨S, hS2⟩ : ∃ S, bs (Pl.num x.size ++ (str x ++ r)) = S := ⟨_, rfl⟩
  rw [hS2] at hcB; obtain ⟨R, hR⟩ : ∃ R, bs (str x ++ r) = R := ⟨_, rfl⟩
  rw [hR] at E1 E2 HCL HN; have HN := Lib.hid HN; have HMS := Lib.hid (And.intro hM hS); clear hsz hz hR hxs h hS2 hM hS
  go_enter Tryz.func255, Tryz.ntmps255
  go_wp2_with (first
    | (go_at_call 305; refine HN.out.mono ?_; rintro e w1 ⟨rfl, ho⟩; have hB1 := H.out.b.off ho (by simp); have hcR1 := (H.out.r.off ho (by simp)).cell; have hcB1 := hB1.cell; have hfB1 := hB1.frozen; have hM1 := HMS.out.1.off ho (by simp); have hS1 := HMS.out.2.off ho (by simp))
    | (go_at_call 256; refine (HCL.out _ hM1 ⟨_, hS1⟩).mono ?_; rintro e w2 ⟨rfl, rfl⟩; rw [E1.out, E2.out]))
  go_ret
  have ho := (by assumption : Off [] w _); refine ⟨rfl, ⟨((H.out.r.off ho (by simp)).far HNE.out.2.1 _).far HNE.out.1 _, ?_⟩, ((HMS.out.2.off ho (by simp)).set_ 0 _).far HNE.out.2.2.symm _, ((ho.mono (by simp)).setCell (.inr (by simp)) _).setCell (.inr (by simp)) _⟩; exact ((H.out.b.off ho (by simp)).far HNE.out.2.2 _).set_ 0 _
set_option maxRecDepth 100000 in
theorem rText (gR gB m : Nat) (x : ByteArray) (r : Str) (w : World) (hx : x.size ≤ m) (hm : m < 2097152) (hr : r.length < 274877906944) (h : Rdr w gR gB (txtB x ++ r)) :
    Calls Tryz.prog 209 #[.pointer (some ⟨gR, 0, none⟩), .int .i64 m] w (RdrPost w gR gB (.string x) r) := by
  have hlB := h.b.lt; have hlR := h.r.lt; unfold txtB at h; rw [List.append_assoc] at h; have HT := Lib.hid (take_text gR gB w.heap.size (w.heap.size + 1) m x r ((w.alloc (.cells #[.int .i64 m] 3)).alloc (.cells #[.string ⟨#[]⟩] 9)) hx hm hr ⟨(h.r.alloc _).alloc _, (h.b.alloc _).alloc _⟩ ((Blk.new _ _ _).alloc _)
    (Blk.new1 w _ _ _))
  clear h
  go_enter Tryz.func209, Tryz.ntmps209
  go_wp2_with (go_at_call 255; refine HT.out.mono ?_; rintro e w1 ⟨rfl, hrd, hS, ho⟩; have hcS := hS.cell)
  go_ret
  exact ⟨rfl, by assumption, ((((Off.refl [gB] w).alloc _).alloc _).trans (by assumption) (by simp; omega))⟩
theorem count_cl (gm gs : Nat) (m n : Nat) (r : ByteArray) (w : World) (hn : n ≤ m) (hr : n * 7 ≤ r.size) (hr2 : r.size < 1099511627776) (hM : Blk w gm 3 #[.int .i64 m]) (hS : Blk w gs 3 #[.int .i64 7]) :
    Calls Tryz.prog 258 #[.int .i64 n, .string r, .pointer (some ⟨gm, 0, none⟩), .pointer (some ⟨gs, 0, none⟩)] w fun e w' => e = .returned (.tuple #[.string r, .int .i64 0]) ∧ w = w' := by
  have hcM := hM.cell; have hcS := hS.cell; have hlS := hS.lt; have hmx : max (7 : Int) 1 = 7 := by omega
  have hq : (r.size : Int).tdiv 7 = ((r.size / 7 : Nat) : Int) := by rw [Int.tdiv_eq_ediv_of_nonneg (by omega)]; omega
  obtain ⟨q, hqq⟩ : ∃ q, r.size / 7 = q := ⟨_, rfl⟩
  rw [hqq] at hq; have hqb : q ≤ r.size := by omega
  have hle : n ≤ q := by omega
  have hwq : wrap64 (q : Int) = q := IntWalk.wrap64_in _ (by omega)
  have hle2 : ¬ (q : Int) < (n : Int) := by omega
  have hle3 : ¬ (m : Int) < (n : Int) := by omega
  clear hr hqq
  go_enter Tryz.func258, Tryz.ntmps258
  go_wp2_with fail
  go_ret2
  exact ⟨rfl, rfl⟩
theorem take_count (gR gB gm gs m n : Nat) (r : Str) (w : World) (hn : n ≤ m) (hm : m < 2097152) (hq : n * 7 ≤ r.length) (hr : r.length < 274877906944) (h : Rdr w gR gB (Pl.num n ++ r))
   (hM : Blk w gm 3 #[.int .i64 m]) (hS : Blk w gs 3 #[.int .i64 7]) :
    Calls Tryz.prog 255 #[.pointer (some ⟨gR, 0, none⟩), .func (.func 258) #[] #[.pointer (some ⟨gm, 0, none⟩), .pointer (some ⟨gs, 0, none⟩)]] w fun e w' => e = .returned (.int .i64 n) ∧ Rdr w' gR gB r ∧ Off [gB] w w' := by
  have H := Lib.hid h; have hcR := h.r.cell; have hcB := h.b.cell; have hlB := h.b.lt; have hlR := h.r.lt; have hne : gR ≠ gB := h.ne
  have hsz : (bs (Pl.num n ++ r)).size < 1099511627776 := by
    rw [bs_size, List.length_append]; have := Pl.num_len 9 n (by omega); omega
  have HN := (number_any gB n (bs (Pl.num n ++ r)) r (.int .i64 0) w (by omega) (str_bs _) hsz hcB); unfold NumGot at HN; have hz : (bs r).size = r.length := bs_size r
  have HCL := Lib.hid (fun (W : World) (h1 : Blk W gm 3 #[.int .i64 m]) (h2 : Blk W gs 3 #[.int .i64 7]) => count_cl gm gs m n (bs r) W hn (by rw [hz]; exact hq) (by rw [hz]; omega) h1 h2); obtain ⟨S, hS2⟩ : ∃ S, bs (Pl.num n ++ r) = S := ⟨_, rfl⟩
  rw [hS2] at hcB; obtain ⟨R, hR⟩ : ∃ R, bs r = R := ⟨_, rfl⟩
  have HRR := Lib.hid hR; rw [hR] at HCL HN; have HN := Lib.hid HN; have HMS := Lib.hid (And.intro hM hS); clear hsz hz hR h hS2 hM hS hq
  go_enter Tryz.func255, Tryz.ntmps255
  go_wp2_with (first
    | (go_at_call 305; refine HN.out.mono ?_; rintro e w1 ⟨rfl, ho⟩; have hB1 := H.out.b.off ho (by simp); have hcR1 := (H.out.r.off ho (by simp)).cell; have hcB1 := hB1.cell; have hfB1 := hB1.frozen; have hM1 := HMS.out.1.off ho (by simp); have hS1 := HMS.out.2.off ho (by simp))
    | (go_at_call 258; refine (HCL.out _ hM1 hS1).mono ?_; rintro e w2 ⟨rfl, rfl⟩))
  go_ret
  have ho := (by assumption : Off [] w _); refine ⟨rfl, ⟨(H.out.r.off ho (by simp)).far hne _, ?_⟩, (ho.mono (by simp)).setCell (.inr (by simp)) _⟩; rw [HRR.out]; exact (H.out.b.off ho (by simp)).set_ 0 _
set_option maxRecDepth 100000 in
theorem rCount (gR gB m n : Nat) (r : Str) (w : World) (hn : n ≤ m) (hm : m < 2097152) (hq : n * 7 ≤ r.length) (hr : r.length < 274877906944) (h : Rdr w gR gB (Pl.num n ++ r)) :
    Calls Tryz.prog 211 #[.pointer (some ⟨gR, 0, none⟩), .int .i64 m, .int .i64 7] w (RdrPost w gR gB (.int .i64 n) r) := by
  have hlB := h.b.lt; have hlR := h.r.lt; have HT := Lib.hid (take_count gR gB w.heap.size (w.heap.size + 1) m n r ((w.alloc (.cells #[.int .i64 m] 3)).alloc (.cells #[.int .i64 7] 3)) hn hm hq hr ⟨(h.r.alloc _).alloc _, (h.b.alloc _).alloc _⟩ ((Blk.new _ _ _).alloc _)
    (Blk.new1 w _ _ _))
  clear h
  go_enter Tryz.func211, Tryz.ntmps211
  go_wp2_with (go_at_call 255; refine HT.out.mono ?_; rintro e w1 ⟨rfl, hrd, ho⟩)
  go_ret
  exact ⟨rfl, by assumption, ((((Off.refl [gB] w).alloc _).alloc _).trans (by assumption) (by simp))⟩
set_option maxRecDepth 100000 in
theorem bEnd (gR gB : Nat) (w : World) (h : Rdr w gR gB []) :
    Calls Tryz.prog 259 #[.pointer (some ⟨gB, 0, none⟩)] w fun e w' => e = .returned (.int .i64 0) ∧ w = w' := by
  have hcB := h.b.cell; have hlB := h.b.lt; have e : bs [] = (⟨#[]⟩ : ByteArray) := rfl
  rw [e] at hcB; clear h e
  go_enter Tryz.func259, Tryz.ntmps259
  go_wp2_with fail
  go_ret
  exact ⟨rfl, rfl⟩
set_option maxRecDepth 100000 in
theorem rEnd (gR gB : Nat) (w : World) (h : Rdr w gR gB []) :
    Calls Tryz.prog 212 #[.pointer (some ⟨gR, 0, none⟩)] w fun e w' => e = .returned (.int .i64 0) ∧ w = w' := by
  have HB := Lib.hid (bEnd gR gB w h); have hcR := h.r.cell; clear h
  go_enter Tryz.func212, Tryz.ntmps212
  go_wp2_with fail
  refine HB.out.mono ?_
  rintro e w1 ⟨rfl, rfl⟩
  go_wp2_with fail
  go_ret
  exact ⟨rfl, rfl⟩
end
section
open Go.RowKit Go.Op
def Head4 (s : ByteArray) (a b c d : UInt8) : Prop := ∃ t, str s = a :: b :: c :: d :: t
theorem or_four (a b c d : UInt8) : bits BinOp.or IntKind.u32 (bits BinOp.or IntKind.u32 (bits BinOp.or IntKind.u32 ((a.toNat : Int) * 16777216 % 4294967296) ((b.toNat : Int) * 65536 % 4294967296)) ((c.toNat : Int) * 256 % 4294967296)) (d.toNat : Int) = ((numF a b c d : Nat) : Int) := by
  have h1 := a.toNat_lt; have h2 := b.toNat_lt; have h3 := c.toNat_lt; have h4 := d.toNat_lt; unfold numF; generalize a.toNat = x at *; generalize b.toNat = y at *; generalize c.toNat = z at *; generalize d.toNat = u at *; have e1 : (x : Int) * 16777216 % 4294967296 = ((x * 16777216 : Nat) : Int) := by omega
  have e2 : (y : Int) * 65536 % 4294967296 = ((y * 65536 : Nat) : Int) := by omega
  have e3 : (z : Int) * 256 % 4294967296 = ((z * 256 : Nat) : Int) := by omega
  rw [e1, e2, e3, u32_or_nat _ _ (by omega) (by omega), nat_join 24 _ _ (by omega) (by omega), u32_or_nat _ _ (by omega) (by omega), nat_join 16 _ _ (by omega) (by omega), u32_or_nat _ _ (by omega) (by omega), nat_join 8 _ _ (by omega) (by omega)]
set_option maxRecDepth 100000 in
set_option maxHeartbeats 2000000 in
theorem rnumber_any (s : ByteArray) (a b c d : UInt8) (w : World) (h : Head4 s a b c d) (hs : s.size < 1099511627776) :
    Calls Tryz.prog 304 #[.string s] w fun e w' => e = .returned (.int .u32 ((numF a b c d : Nat) : Int)) ∧ Off [] w w' := by
  obtain ⟨t, ht⟩ := h; have hl := congrArg List.length ht; rw [str_size] at hl; simp only [List.length_cons] at hl; have g : ∀ (i : Nat) (hi : i < s.size) (x : UInt8), (a :: b :: c :: d :: t)[i]? = some x → s[i]'hi = x := fun i hi x hx => by
    rw [← ht] at hx; exact (List.getElem?_eq_some_iff.1 hx).2
  have hs4 : 4 ≤ s.size := by omega
  clear hl; have g0 := g 0 (by omega) a rfl; have g1 := g 1 (by omega) b rfl; have g2 := g 2 (by omega) c rfl; have g3 := g 3 (by omega) d rfl; clear ht g
  go_enter Tryz.func304, Tryz.ntmps304
  go_wp2_with fail
  go_quiet (fail)
  go_wp2_with fail
  go_ret
  refine ⟨?_, (Off.refl _ _).drewN _⟩
  have e : ∀ x : UInt8, (x.toNat : Int) % 4294967296 = (x.toNat : Int) := fun x => by have := x.toNat_lt; omega
  show Ending.returned (.int .u32 (bits BinOp.or IntKind.u32 (bits BinOp.or IntKind.u32 (bits BinOp.or IntKind.u32 ((a.toNat : Int) % 4294967296 * 16777216 % 4294967296) ((b.toNat : Int) % 4294967296 * 65536 % 4294967296)) ((c.toNat : Int) % 4294967296 * 256 % 4294967296)) ((d.toNat : Int) % 4294967296))) = _
  rw [e, e, e, e, or_four]
def nextV (s : Str) : Str × Str × Int :=
  match s with
  | a :: b :: c :: d :: e :: f :: g :: h :: t =>
    if 1048576 < numF a b c d then ([], [], 32) else if t.length < numF a b c d then ([], [], 50) else
      if numF e f g h = (Crc.crc ([a, b, c, d] ++ t.take (numF a b c d))).toNat then (t.take (numF a b c d), t.drop (numF a b c d), 0) else ([], [], 51)
  | _ => ([], [], 50)
def oneE (s : Str) : Str × Int := if (nextV s).2.1 ≠ [] then ([], 32) else ((nextV s).1, (nextV s).2.2)
theorem oneE_some {s p : Str} (h : oneV s = some p) : oneE s = (p, 0) := by
  unfold oneV at h; unfold oneE nextV
  split at h
  · split at h
    · rename_i a b c d e f g k p hh
      injection h with h
      subst h; obtain ⟨h1, h2, h3⟩ := hh; have k1 : ¬ 1048576 < p.length := by omega
      have h3' := h3; simp only [h1, k1, if_false, Nat.lt_irrefl, List.take_length, List.drop_length, h3, if_true]; simp
    cases h
  cases h
theorem oneE_none {s : Str} (h : oneV s = none) : (oneE s).2 ≠ 0 := by
  unfold oneV at h; unfold oneE nextV
  split at h
  · rename_i a b c d e f g k p
    split at h
    · cases h
    rename_i hh
    simp only []
    by_cases h1 : 1048576 < numF a b c d
    · rw [if_pos h1]; simp
    rw [if_neg h1]
    by_cases h2 : p.length < numF a b c d
    · rw [if_pos h2]; simp
    rw [if_neg h2]
    by_cases h3 : numF e f g k = (Crc.crc ([a, b, c, d] ++ p.take (numF a b c d))).toNat
    · rw [if_pos h3]
      by_cases h4 : numF a b c d = p.length
      · exfalso
        rw [h4, List.take_of_length_le (Nat.le_refl _)] at h3; exact hh ⟨h4, by omega, h3⟩
      have h5 : p.drop (numF a b c d) ≠ [] := by
        intro h5
        have := congrArg List.length h5; rw [List.length_drop, List.length_nil] at this; omega
      simp only [ne_eq, h5, not_false_eq_true, if_true]
      decide
    rw [if_neg h3]; simp
  rename_i hh
  split
  · rename_i a b c d e f g k p
    exact absurd rfl (hh a b c d e f g k p)
  simp
theorem eight_or (s : Str) : s.length < 8 ∨ ∃ a b c d e f g h t, s = a :: b :: c :: d :: e :: f :: g :: h :: t := by
  match s with
  | [] | [_] | [_, _] | [_, _, _] | [_, _, _, _] | [_, _, _, _, _] | [_, _, _, _, _, _] | [_, _, _, _, _, _, _] => left; simp
  | a :: b :: c :: d :: e :: f :: g :: h :: t => right; exact ⟨a, b, c, d, e, f, g, h, t, rfl⟩
theorem nextV_short {s : Str} (h : s.length < 8) : nextV s = ([], [], 50) := by
  unfold nextV
  split
  · rename_i a b c d e f g k t
    simp only [List.length_cons] at h
    omega
  rfl
set_option maxRecDepth 100000 in
set_option maxHeartbeats 4000000 in
theorem next_any (s : ByteArray) (w : World) (hs : s.size < 1099511627776) :
    Calls Tryz.prog 254 #[.string s] w fun e w' => e = .returned (.tuple #[.string (bs (nextV (str s)).1), .string (bs (nextV (str s)).2.1), .int .i64 (nextV (str s)).2.2]) ∧ Off [] w w' := by
  rcases eight_or (str s) with h8 | ⟨a, b, c, d, e, f, g, h, t, hst⟩
  · rw [nextV_short h8]
    rw [str_size] at h8; have hlt : (s.size : Int) < 8 := by omega
    clear h8
    go_enter Tryz.func254, Tryz.ntmps254
    go_wp2_with fail
    go_ret3
    exact ⟨rfl, Off.refl _ _⟩
  have hl := congrArg List.length hst; rw [str_size] at hl; simp only [List.length_cons] at hl; have hlt : ¬ (s.size : Int) < 8 := by omega
  obtain ⟨N, hN⟩ : ∃ N, numF a b c d = N := ⟨_, rfl⟩
  obtain ⟨M, hM⟩ : ∃ M, numF e f g h = M := ⟨_, rfl⟩
  have HNUM := Lib.hid (fun (W : World) => rnumber_any s a b c d W ⟨_, hst⟩ hs); have hs4 : Head4 (s.extract 4 s.size) e f g h := ⟨t, by rw [str_extract, hst]; simp only [List.drop_succ_cons, List.drop_zero]; rw [List.take_of_length_le (by simp only [List.length_cons]; omega)]⟩
  have HNU2 := Lib.hid (fun (W : World) => rnumber_any (s.extract 4 s.size) e f g h W hs4 (by rw [ByteArray.size_extract]; omega)); rw [hN] at HNUM; rw [hM] at HNU2; have HV := Lib.hid (show nextV (str s) = if 1048576 < N then ([], [], 50 - 18) else if t.length < N then ([], [], 50) else if M = (Crc.crc ([a, b, c, d] ++ t.take N)).toNat then (t.take N, t.drop N, 0) else ([], [], 51) from by
    rw [hst, ← hN, ← hM]; rfl)
  have hNl : N < 4294967296 := by rw [← hN]; exact numF_lt a b c d
  clear hN hM hs4
  by_cases h1 : 1048576 < N
  · have g1 : (1048576 : Int) < N := by omega
    rw [HV.out, if_pos h1]; clear h1 hl
    go_enter Tryz.func254, Tryz.ntmps254
    go_wp2_with fail
    refine (HNUM.out _).mono ?_
    rintro e w1 ⟨rfl, ho1⟩
    go_wp2_with fail
    go_ret3
    exact ⟨rfl, ho1⟩
  have g1 : ¬ (1048576 : Int) < N := by omega
  have q1 : ((N : Nat) : Int) % 4294967296 = N := by omega
  by_cases h2 : t.length < N
  · have g2 : (s.size : Int) - 8 < N := by omega
    rw [HV.out, if_neg h1, if_pos h2]; clear h1 h2 hl
    go_enter Tryz.func254, Tryz.ntmps254
    go_wp2_with fail
    refine (HNUM.out _).mono ?_
    rintro e w1 ⟨rfl, ho1⟩
    go_wp2_with fail
    go_ret3
    exact ⟨rfl, ho1⟩
  have g2 : ¬ (s.size : Int) - 8 < N := by omega
  have q2 : (8 + (N : Int)) % 4294967296 = 8 + (N : Int) := by omega
  have q3 : IntKind.u32.wrap (8 + (N : Int)) = 8 + (N : Int) := by rw [IntKind.wrap_u32']; exact q2
  have q4 : (8 + (N : Int)).toNat = 8 + N := by omega
  have q5 : (8 : Int) + N ≤ s.size := by omega
  have hp : s.extract 8 (8 + N) = bs (t.take N) := str_inj (by
    rw [str_extract, str_bs, hst]; simp only [List.drop_succ_cons, List.drop_zero]; rw [show 8 + N - 8 = N by omega])
  have hr : s.extract (8 + N) s.size = bs (t.drop N) := str_inj (by
    rw [str_extract, str_bs, hst, List.take_of_length_le (by simp only [List.length_drop, List.length_cons]; omega), Nat.add_comm]
    rfl)
  have hq : s.extract 0 4 = bs [a, b, c, d] := str_inj (by
    rw [str_extract, str_bs, hst]
    rfl)
  obtain ⟨P, hP⟩ : ∃ P, t.take N = P := ⟨_, rfl⟩
  obtain ⟨R, hR⟩ : ∃ R, t.drop N = R := ⟨_, rfl⟩
  rw [hP] at hp; rw [hR] at hr; have hPl : P.length ≤ 1048576 := by rw [← hP, List.length_take]; omega
  have HC := Lib.hid (fun (W : World) => crc_any (bs ([a, b, c, d] ++ P)) W (by rw [bs_size, List.length_append]; simp; omega)); rw [str_bs] at HC; have hadd : ∀ wx : World, (Op.stringOp .add (bs [a, b, c, d]) (bs P)).run Tryz.prog wx = .ok (.string (bs ([a, b, c, d] ++ P))) wx := fun wx => by
    rw [run_string_add_sum wx _ _ (by rw [bs_size, bs_size]; simp; omega)]; rw [show bs [a, b, c, d] ++ bs P = bs ([a, b, c, d] ++ P) from str_inj (by rw [str_append, str_bs, str_bs, str_bs])]
  have hMl := HV.out; rw [if_neg h1, if_neg h2, hP, hR] at hMl; obtain ⟨C, hC⟩ : ∃ C, (Crc.crc ([a, b, c, d] ++ P)).toNat = C := ⟨_, rfl⟩
  rw [hC] at hMl HC; obtain ⟨Q, hQ⟩ : ∃ Q, bs P = Q := ⟨_, rfl⟩
  obtain ⟨R2, hR2⟩ : ∃ R2, bs R = R2 := ⟨_, rfl⟩
  obtain ⟨H4, hH4⟩ : ∃ H4, bs [a, b, c, d] = H4 := ⟨_, rfl⟩
  obtain ⟨J, hJ⟩ : ∃ J, bs ([a, b, c, d] ++ P) = J := ⟨_, rfl⟩
  rw [hQ] at hp; rw [hR2] at hr; rw [hH4] at hq; rw [hQ, hH4, hJ] at hadd; rw [hJ] at HC; have HQR := Lib.hid (And.intro hQ hR2); rw [hMl]; clear HV hst hP hR hPl hC hQ hR2 hH4 hJ h1 h2 hMl hNl
  have he : Ending.returned (.tuple #[.string (bs (if M = C then (P, R, (0 : Int)) else ([], [], 51)).1), .string (bs (if M = C then (P, R, (0 : Int)) else ([], [], 51)).2.1), .int .i64 (if M = C then (P, R, (0 : Int)) else ([], [], 51)).2.2]) = if M = C then Ending.returned (.tuple #[.string Q, .string R2, .int .i64 0]) else Ending.returned (.tuple #[.string ⟨#[]⟩, .string ⟨#[]⟩, .int .i64 51]) := by
    rw [← HQR.out.1, ← HQR.out.2]
    split <;> rfl
  rw [he]; have hs8 : (8 : Int) ≤ s.size := by omega
  have hs44 : (4 : Int) ≤ s.size := by omega
  clear he HQR hl
  by_cases hMC : M = C
  · have hb : ((M : Int) == (C : Int)) = true := by rw [hMC]; exact beq_self_eq_true _
    have hb2 : ((M : Int) != (C : Int)) = false := by rw [bne, hb]; rfl
    rw [if_pos hMC]; clear hMC
    go_enter Tryz.func254, Tryz.ntmps254
    go_wp2_with fail
    refine (HNUM.out _).mono ?_
    rintro e w1 ⟨rfl, ho1⟩; have HO1 := Lib.hid ho1; clear ho1
    go_upto_region 8 with fail
    go_quiet (fail)
    go_upto_region 9 with fail
    refine code_gen (fun W => Hid (Off [] w W)) (Lib.hid (HO1.out.trans_nil ((Off.refl [] w1).drewN _))) ?_
    rintro W HW
    go_region_held3 (fun _ => True) (trivial) (first
      | (go_at_call 304; refine (HNU2.out _).mono ?_; rintro e w2 ⟨rfl, ho2⟩)
      | (go_at_call 201; refine (HC.out _).mono ?_; rintro e w3 ⟨rfl, ho3⟩))
    all_goals
      go_wp2_with fail
      go_ret3
      refine ⟨rfl, ?_⟩
      have hd := (Off.refl [] W).drew
      first
        | exact HW.out.trans_nil (hd.trans_nil (Off.trans_nil (by assumption : Off [] W.drew _) (by assumption)))
        | exact HW.out.trans_nil (hd.trans_nil (by assumption : Off [] W.drew _))
  have hb : ((M : Int) == (C : Int)) = false := beq_eq_false_iff_ne.2 (by omega)
  have hb2 : ((M : Int) != (C : Int)) = true := by rw [bne, hb]; rfl
  rw [if_neg hMC]; clear hMC
  go_enter Tryz.func254, Tryz.ntmps254
  go_wp2_with fail
  refine (HNUM.out _).mono ?_
  rintro e w1 ⟨rfl, ho1⟩; have HO1 := Lib.hid ho1; clear ho1
  go_upto_region 8 with fail
  go_quiet (fail)
  go_upto_region 9 with fail
  refine code_gen (fun W => Hid (Off [] w W)) (Lib.hid (HO1.out.trans_nil ((Off.refl [] w1).drewN _))) ?_
  rintro W HW
  go_region_held3 (fun _ => True) (trivial) (first
    | (go_at_call 304; refine (HNU2.out _).mono ?_; rintro e w2 ⟨rfl, ho2⟩)
    | (go_at_call 201; refine (HC.out _).mono ?_; rintro e w3 ⟨rfl, ho3⟩))
  all_goals
    go_wp2_with fail
    go_ret3
    refine ⟨rfl, ?_⟩
    have hd := (Off.refl [] W).drew
    first
      | exact HW.out.trans_nil (hd.trans_nil (Off.trans_nil (by assumption : Off [] W.drew _) (by assumption)))
      | exact HW.out.trans_nil (hd.trans_nil (by assumption : Off [] W.drew _))
set_option maxRecDepth 100000 in
theorem one_any (s : ByteArray) (w : World) (hs : s.size < 1099511627776) :
    Calls Tryz.prog 207 #[.string s] w fun e w' => e = .returned (.tuple #[.string (bs (oneE (str s)).1), .int .i64 (oneE (str s)).2]) ∧ Off [] w w' := by
  have HX := next_any s w hs; unfold oneE; obtain ⟨r, hr⟩ : ∃ r, nextV (str s) = r := ⟨_, rfl⟩
  obtain ⟨p, q, e0⟩ := r; rw [hr] at HX ⊢; simp only [] at HX ⊢; have HX := Lib.hid HX; clear hr
  by_cases hq : q = []
  · rw [if_neg (by rw [hq]; simp)]
    have he : (bs q).toList.isEmpty = true := by rw [toList_str, str_bs, hq]; rfl
    obtain ⟨Q, hQ⟩ : ∃ Q, bs q = Q := ⟨_, rfl⟩
    rw [hQ] at HX he; clear hq hQ
    go_enter Tryz.func207, Tryz.ntmps207
    go_wp2_with fail
    refine HX.out.mono ?_
    rintro e w1 ⟨rfl, ho⟩
    go_wp2_with fail
    go_ret2
    exact ⟨rfl, ho⟩
  rw [if_pos hq]; have he : (bs q).toList.isEmpty = false := by
    rw [toList_str, str_bs]
    cases q with
    | nil => exact absurd rfl hq
    | cons x q => rfl
  obtain ⟨Q, hQ⟩ : ∃ Q, bs q = Q := ⟨_, rfl⟩
  rw [hQ] at HX he; clear hq hQ
  go_enter Tryz.func207, Tryz.ntmps207
  go_wp2_with fail
  refine HX.out.mono ?_
  rintro e w1 ⟨rfl, ho⟩
  go_wp2_with fail
  go_ret2
  exact ⟨rfl, ho⟩
end
end Go.Proofs.YtoicjadioiomkaaGreatDoor
