/- Texts of this claim, one behind the other: SumT Sum Known FastP PrK BareW Prints RunO FastW. Conditions: what each lemma states. -/
import Derived.Test.YthciejabapdbgaaGreatDoorKn
import Derived.Deep.RegionWith
import Derived.KernelRfl
import Derived.Laws.IdiomStrings
import Derived.Test.YthciejabapdbgaaGreatDoorKo
import Derived.Test.YthciejabapdbgaaGreatDoorKe
import Derived.Test.YthciejabapdbgaaGreatDoorKb
import Derived.Test.YthciejabapdbgaaGreatDoorKj
import Derived.Test.YthciejabapdbgaaGreatDoorKl
import Derived.Test.YthciejabapdbgaaGreatDoorKm
import Derived.Test.YthciejabapdbgaaGreatDoorKk
import Derived.Deep.CutBlock
set_option linter.unusedVariables false
set_option linter.unusedSimpArgs false
namespace Go.Proofs.YthciejabapdbgaaGreatDoor
section
open Go.RowKit Go.Op
set_option maxRecDepth 100000 in
set_option maxHeartbeats 8000000 in
theorem sumT_any (s : ByteArray) (w : World) (hs : s.size ≤ 1000000) (HRP : Hid (∀ (c : Nat) (w : World), c ≤ 63 → Calls Tryz.prog 195 #[.string ⟨#[0]⟩, .int .i64 c] w fun e w' => e = .returned (.string ⟨Array.replicate c 0⟩) ∧ Off [] w w')) (HRD : Hid (∀ (s : St8) (b : ByteArray) (w : World), b.size = 64 → Calls Tryz.prog 194 #[.agg #[.int .u32 s.a, .int .u32 s.b, .int .u32 s.c, .int .u32 s.d, .int .u32 s.e, .int .u32 s.f, .int .u32 s.g, .int .u32 s.h], .string b] w fun e w' => e = .returned (.agg (wCells (roundV s b))) ∧ Off [] w w')) : Calls Tryz.prog 121 #[.string s] w fun e w' => e = .returned (.string (sumV s)) ∧ Off [] w w' := by
  go_enter Tryz.func121, Tryz.ntmps121
  go_upto_region 2 with fail
  refine code_gen (fun W => Hid (Off [] w W ∧ Blk W w.heap.size 256 (wCells ini8))) (Lib.hid ⟨(Off.refl _ _).alloc _, Blk.new w _ _⟩) ?_
  rintro W1 HW1
  go_upto_region 4 with fail
  go_loopw [5] (fun r wr => ∃ k : Nat, r = .string (s.extract (64 * k) s.size) ∧ 64 * k ≤ s.size ∧ Hid (Off [] w wr ∧ Blk wr w.heap.size 256 (wCells (hsV s ini8 k)))) (fun r _ => strLenS r)
  case atStart => exact ⟨0, by simp, by omega, HW1⟩
  case round =>
    obtain ⟨k, rfl, hk, HR⟩ := hrel; have hsz : (s.extract (64 * k) s.size).size = s.size - 64 * k := by rw [ByteArray.size_extract]; omega
    by_cases hlt : 64 * k + 64 ≤ s.size
    · obtain ⟨L, hL⟩ : ∃ L, hsV s ini8 k = L := ⟨_, rfl⟩
      have hLl : L.length = 8 := by rw [← hL]; exact hsV_len s ini8 rfl k
      rw [hL] at HR; obtain ⟨d0, d1, d2, d3, d4, d5, d6, d7⟩ := cells8 HR.out.2 hLl; have hl := HR.out.2.lt; obtain ⟨r, hr⟩ : ∃ r, s.extract (64 * k) s.size = r := ⟨_, rfl⟩
      rw [hr] at hsz; rw [hr]; have hrz : (64 : Int) ≤ (r.size : Int) := by omega
      have hrn : 64 ≤ r.size := by omega
      have hb64 : (r.extract 0 64).size = 64 := by rw [ByteArray.size_extract]; omega
      have HLL := Lib.hid (And.intro hL (And.intro hLl (And.intro hr hsz))); clear hL hLl hr hsz; obtain ⟨M, hM⟩ : ∃ M, roundV (stOf L) (r.extract 0 64) = M := ⟨_, rfl⟩
      have hMl : M.length = 8 := by rw [← hM]; exact roundV_len _ _
      have hM8 := list8 hMl; obtain ⟨y0, hy0⟩ : ∃ y, M.getD 0 0 = y := ⟨_, rfl⟩
      obtain ⟨y1, hy1⟩ : ∃ y, M.getD 1 0 = y := ⟨_, rfl⟩
      obtain ⟨y2, hy2⟩ : ∃ y, M.getD 2 0 = y := ⟨_, rfl⟩
      obtain ⟨y3, hy3⟩ : ∃ y, M.getD 3 0 = y := ⟨_, rfl⟩
      obtain ⟨y4, hy4⟩ : ∃ y, M.getD 4 0 = y := ⟨_, rfl⟩
      obtain ⟨y5, hy5⟩ : ∃ y, M.getD 5 0 = y := ⟨_, rfl⟩
      obtain ⟨y6, hy6⟩ : ∃ y, M.getD 6 0 = y := ⟨_, rfl⟩
      obtain ⟨y7, hy7⟩ : ∃ y, M.getD 7 0 = y := ⟨_, rfl⟩
      rw [hy0, hy1, hy2, hy3, hy4, hy5, hy6, hy7] at hM8; have HC := Lib.hid (fun (W : World) => HRD.out (stOf L) (r.extract 0 64) W hb64); rw [hM, show wCells M = #[.int .u32 y0, .int .u32 y1, .int .u32 y2, .int .u32 y3, .int .u32 y4, .int .u32 y5, .int .u32 y6, .int .u32 y7] by rw [hM8]; rfl] at HC; have HM := Lib.hid (And.intro hM hM8); clear hM hMl hM8 hy0 hy1 hy2 hy3 hy4 hy5 hy6 hy7
      go_upto_region 6 with fail
      go_region_with (go_at_call 194; refine (HC.out _).mono ?_; rintro e' wA ⟨rfl, hoA⟩; have hBA := HR.out.2.off ((Off.refl [] wr).drew.trans_nil hoA) List.not_mem_nil; obtain ⟨a0, a1, a2, a3, a4, a5, a6, a7⟩ := cells8 hBA HLL.out.2.1; have fA := hBA.frozen; have lA := hBA.lt; clear d0 d1 d2 d3 d4 d5 d6 d7)
      have hO2 : Off [] w (put8 wA w.heap.size (.int .u32 y0) (.int .u32 y1) (.int .u32 y2) (.int .u32 y3) (.int .u32 y4) (.int .u32 y5) (.int .u32 y6) (.int .u32 y7)) := (HR.out.1.trans_nil ((Off.refl [] wr).drew.trans_nil hoA)).trans (put8_off _ _ _ _ _ _ _ _ _ _) (fun x hx hm => by rw [List.mem_singleton] at hm; omega)
      have HB2 := Lib.hid (And.intro hO2 (put8_blk hBA HLL.out.2.1 y0 y1 y2 y3 y4 y5 y6 y7)); clear hO2 hBA fA lA a0 a1 a2 a3 a4 a5 a6 a7; have hr64 : (64 : Int) ≤ (r.size : Int) := hrz
      go_wp2_with fail
      have hnx : r.extract 64 r.size = s.extract (64 * (k + 1)) s.size := by
        rw [← HLL.out.2.2.1, ByteArray.extract_extract, ByteArray.size_extract]
        congr 1 <;> omega
      have hb : r.extract 0 64 = s.extract (64 * k) (64 * k + 64) := by
        rw [← HLL.out.2.2.1, ByteArray.extract_extract]
        congr 1 <;> omega
      have hst : hsV s ini8 (k + 1) = [y0, y1, y2, y3, y4, y5, y6, y7] := by
        show roundV (stOf (hsV s ini8 k)) (s.extract (64 * k) (64 * k + 64)) = _
        rw [HLL.out.1, ← hb, HM.out.1]; exact HM.out.2
      refine ⟨⟨k + 1, by rw [← hnx], by omega, Lib.hid ⟨HB2.out.1, by rw [hst]; exact HB2.out.2⟩⟩, ?_⟩
      show (r.extract 64 r.size).size < r.size
      rw [ByteArray.size_extract]; omega
    obtain ⟨L, hL⟩ : ∃ L, hsV s ini8 k = L := ⟨_, rfl⟩
    rw [hL] at HR; obtain ⟨r, hr⟩ : ∃ r, s.extract (64 * k) s.size = r := ⟨_, rfl⟩
    rw [hr] at hsz; rw [hr]; have hrz : ¬ (64 : Int) ≤ (r.size : Int) := by omega
    obtain ⟨z, hz⟩ : ∃ z : Nat, (119 - r.size) % 64 = z := ⟨_, rfl⟩
    have hz63 : z ≤ 63 := by omega
    have t1 : ((119 : Int) - (r.size : Int)).tmod 64 = (z : Int) := by
      rw [← hz]; have : ((119 : Int) - (r.size : Int)) = ((119 - r.size : Nat) : Int) := by omega
      rw [this]
      rfl
    have i1 : IntKind.i64.wrap ((119 : Int) - (r.size : Int)) = 119 - (r.size : Int) := IntWalk.i64_in _ (by omega)
    have HLL0 := Lib.hid (show L.length = 8 by rw [← hL]; exact hsV_len s ini8 rfl k); have HLL := Lib.hid (And.intro hL (And.intro hr hsz)); clear hL hr hsz; have hr64 : r.size < 64 := by omega
    have HK0 := Lib.hid (show k = s.size / 64 by omega)
    go_wp2_with fail
    refine (HRP.out z wr hz63).mono ?_
    rintro e w2 ⟨rfl, ho2⟩; have H2 := Lib.hid (And.intro (HR.out.1.trans_nil ho2) (HR.out.2.off ho2 List.not_mem_nil)); obtain ⟨zs, hzs⟩ : ∃ zs : ByteArray, (⟨Array.replicate z 0⟩ : ByteArray) = zs := ⟨_, rfl⟩
    have hzl : zs.size = z := by rw [← hzs]; show (Array.replicate z (0 : UInt8)).size = z; simp
    rw [hzs]; have hadd1 : ∀ W : World, (Op.stringOp .add ⟨#[128]⟩ zs).run Tryz.prog W = .ok (.string (⟨#[128]⟩ ++ zs)) W := fun W => run_string_add_sum W ⟨#[128]⟩ zs (by rw [hzl]; show 1 + z ≤ _; omega)
    obtain ⟨p1, hp1⟩ : ∃ p1 : ByteArray, (⟨#[128]⟩ : ByteArray) ++ zs = p1 := ⟨_, rfl⟩
    have hp1l : p1.size = z + 1 := by rw [← hp1, ByteArray.size_append, hzl]; show 1 + z = z + 1; omega
    rw [hp1] at hadd1; have hadd2 : ∀ W : World, (Op.stringOp .add r p1).run Tryz.prog W = .ok (.string (r ++ p1)) W := fun W => run_string_add_sum W r p1 (by omega)
    have HZS := Lib.hid (And.intro hzs (And.intro hp1 hp1l)); have HZZ := Lib.hid hz; clear ho2 HR hzs hzl hp1 hp1l hz t1 i1
    go_upto_region 9 with fail
    refine code_gen (fun W => Hid (Off [] w W ∧ Blk W w.heap.size 256 (wCells L) ∧ Blk W w2.heap.size 260 (uCells (szV s.size 0)))) (Lib.hid ⟨H2.out.1.alloc _, H2.out.2.alloc _, Blk.new w2 _ _⟩) ?_
    rintro W3 HW3; have HNE := Lib.hid (show w.heap.size < w2.heap.size from H2.out.2.lt); obtain ⟨g6, hg6⟩ : ∃ g6, w2.heap.size = g6 := ⟨_, rfl⟩
    rw [hg6] at HW3 HNE; rw [hg6]; clear hg6 H2 hadd1 hadd2
    go_wp2_with fail
    go_loopw [35] (fun x wr => ∃ i : Nat, x = .int .i64 i ∧ i ≤ 8 ∧ Hid (Off [] w wr ∧ Blk wr w.heap.size 256 (wCells L) ∧ Blk wr g6 260 (uCells (szV s.size i)))) (fun x _ => 8 - (intOf x).toNat)
    case atStart => exact ⟨0, rfl, Nat.zero_le _, HW3⟩
    case round =>
      clear HW3; obtain ⟨i, rfl, hi, HR⟩ := hrel
      by_cases hlt8 : i < 8
      · have hl6 := HR.out.2.2.lt
        have hf6 := HR.out.2.2.frozen; have c6 : ∃ x, wr.cell? ⟨g6, i, none⟩ = some (.int .u8 x) := ⟨_, by rw [HR.out.2.2.cell, uCells_get, List.getElem?_eq_getElem (by rw [szV_len]; exact hlt8)]; rfl⟩
        obtain ⟨x6, c6⟩ := c6; have hiI : (i : Int) < 8 := by omega
        have m1 : IntKind.i64.wrap (8 * (i : Int)) = 8 * (i : Int) := IntWalk.i64_in _ (by omega)
        have m2 : IntKind.i64.wrap (56 - 8 * (i : Int)) = 56 - 8 * (i : Int) := IntWalk.i64_in _ (by omega)
        have m3 : ¬ (56 - 8 * (i : Int)) < 0 := by omega
        go_wp2_with fail
        have ho : Off [g6] wr (wr.setCell ⟨g6, i, none⟩ (.int .u8 ((s.size : Int) * 8 / 2 ^ (56 - 8 * i) % 256))) := (Off.refl _ _).setCell (.inr (by simp)) _
        refine ⟨⟨i + 1, by congr 1, by omega, Lib.hid ⟨HR.out.1.trans ho (fun x hx hm => by rw [List.mem_singleton] at hm; have := HNE.out; omega), HR.out.2.1.off ho (by have := HNE.out; simp; omega), ?_⟩⟩, by simp only [intOf]; omega⟩
        rw [show szV s.size (i + 1) = (szV s.size i).set i ((s.size : Int) * 8 / 2 ^ (56 - 8 * i) % 256) from rfl, ← uCells_set]; exact HR.out.2.2.set_ i _
      have hi8 : i = 8 := by omega
      rw [hi8] at HR; clear hi8 hi; have hback := run_convert_bytes_back (P := Tryz.prog) wr 183 9 5 ⟨g6, 0, none⟩ 8 (bytesI (szV s.size 8)) Tryz.underlying183 Tryz.underlying5 Tryz.underlying9 (bytesI_at (szV_in _ 8) HR.out.2.2); have hb8 : (bytesI (szV s.size 8)).length = 8 := by unfold bytesI; rw [List.length_map, szV_len]
      rw [hb8] at hback; obtain ⟨q, hq⟩ : ∃ q : ByteArray, (⟨(bytesI (szV s.size 8)).toArray⟩ : ByteArray) = q := ⟨_, rfl⟩
      have hql : q.size = 8 := by rw [← hq]; show (bytesI (szV s.size 8)).toArray.size = 8; rw [List.size_toArray]; exact hb8
      rw [hq] at hback; have hadd3 : ∀ W : World, (Op.stringOp .add (r ++ p1) q).run Tryz.prog W = .ok (.string (r ++ p1 ++ q)) W := fun W => run_string_add_sum W (r ++ p1) q (by rw [ByteArray.size_append, HZS.out.2.2]; omega)
      have HQ := Lib.hid (And.intro hq hql); clear hq hb8; have hl6 := HR.out.2.2.lt
      go_upto_region 15 with fail
      obtain ⟨t, ht⟩ : ∃ t : ByteArray, r ++ p1 ++ q = t := ⟨_, rfl⟩
      have htl : ∃ m : Nat, t.size = 64 * m ∧ m ≤ 2 := by
        have h1 : t.size = r.size + (z + 1) + 8 := by rw [← ht, ByteArray.size_append, ByteArray.size_append, HZS.out.2.2, HQ.out.2]
        have h2 := HZZ.out; exact ⟨t.size / 64, by omega, by omega⟩
      obtain ⟨m, hm, hm2⟩ := htl; rw [ht]; have HT := Lib.hid (And.intro ht hm); have HR3 := Lib.hid (And.intro HR.out.1 HR.out.2.1); clear ht hadd3 hback hl6 HR hrz hr64 hm2
      go_loopw [5] (fun v wr => ∃ k : Nat, v = .string (t.extract (64 * k) t.size) ∧ 64 * k ≤ t.size ∧ Hid (Off [] w wr ∧ Blk wr w.heap.size 256 (wCells (hsV t L k)))) (fun v _ => strLenS v)
      case atStart => exact ⟨0, by simp, by omega, HR3⟩
      case round =>
        clear HR3; obtain ⟨k, rfl, hk, HR⟩ := hrel; have hsz : (t.extract (64 * k) t.size).size = t.size - 64 * k := by rw [ByteArray.size_extract]; omega
        by_cases hlt : 64 * k + 64 ≤ t.size
        · obtain ⟨L3, hL⟩ : ∃ L3, hsV t L k = L3 := ⟨_, rfl⟩
          have hLl : L3.length = 8 := by rw [← hL]; exact hsV_len t L HLL0.out k
          rw [hL] at HR; obtain ⟨d0, d1, d2, d3, d4, d5, d6, d7⟩ := cells8 HR.out.2 hLl; have hl := HR.out.2.lt; obtain ⟨r3, hr⟩ : ∃ r3, t.extract (64 * k) t.size = r3 := ⟨_, rfl⟩
          rw [hr] at hsz; rw [hr]; have hrz : (64 : Int) ≤ (r3.size : Int) := by omega
          have hrn : 64 ≤ r3.size := by omega
          have hb64 : (r3.extract 0 64).size = 64 := by rw [ByteArray.size_extract]; omega
          have HLL := Lib.hid (And.intro hL (And.intro hLl (And.intro hr hsz))); have hne : ¬ r3.toList = [] := fun e => by
            have : r3.size = 0 := by rw [← str_size, ← toList_str, e]; rfl
            omega
          have hne' : r3.toList.isEmpty = false := by simpa using hne
          clear hL hLl hr hsz; obtain ⟨M, hM⟩ : ∃ M, roundV (stOf L3) (r3.extract 0 64) = M := ⟨_, rfl⟩
          have hMl : M.length = 8 := by rw [← hM]; exact roundV_len _ _
          have hM8 := list8 hMl; obtain ⟨y0, hy0⟩ : ∃ y, M.getD 0 0 = y := ⟨_, rfl⟩
          obtain ⟨y1, hy1⟩ : ∃ y, M.getD 1 0 = y := ⟨_, rfl⟩
          obtain ⟨y2, hy2⟩ : ∃ y, M.getD 2 0 = y := ⟨_, rfl⟩
          obtain ⟨y3, hy3⟩ : ∃ y, M.getD 3 0 = y := ⟨_, rfl⟩
          obtain ⟨y4, hy4⟩ : ∃ y, M.getD 4 0 = y := ⟨_, rfl⟩
          obtain ⟨y5, hy5⟩ : ∃ y, M.getD 5 0 = y := ⟨_, rfl⟩
          obtain ⟨y6, hy6⟩ : ∃ y, M.getD 6 0 = y := ⟨_, rfl⟩
          obtain ⟨y7, hy7⟩ : ∃ y, M.getD 7 0 = y := ⟨_, rfl⟩
          rw [hy0, hy1, hy2, hy3, hy4, hy5, hy6, hy7] at hM8; have HC := Lib.hid (fun (W : World) => HRD.out (stOf L3) (r3.extract 0 64) W hb64); rw [hM, show wCells M = #[.int .u32 y0, .int .u32 y1, .int .u32 y2, .int .u32 y3, .int .u32 y4, .int .u32 y5, .int .u32 y6, .int .u32 y7] by rw [hM8]; rfl] at HC; have HM := Lib.hid (And.intro hM hM8)
          clear hM hMl hM8 hy0 hy1 hy2 hy3 hy4 hy5 hy6 hy7
          go_upto_region 17 with fail
          go_region_with (go_at_call 194; refine (HC.out _).mono ?_; rintro e' wA ⟨rfl, hoA⟩; have hBA := HR.out.2.off ((Off.refl [] wr).drew.trans_nil hoA) List.not_mem_nil; obtain ⟨a0, a1, a2, a3, a4, a5, a6, a7⟩ := cells8 hBA HLL.out.2.1; have fA := hBA.frozen; have lA := hBA.lt; clear d0 d1 d2 d3 d4 d5 d6 d7)
          have hO2 : Off [] w (put8 wA w.heap.size (.int .u32 y0) (.int .u32 y1) (.int .u32 y2) (.int .u32 y3) (.int .u32 y4) (.int .u32 y5) (.int .u32 y6) (.int .u32 y7)) := (HR.out.1.trans_nil ((Off.refl [] wr).drew.trans_nil hoA)).trans (put8_off _ _ _ _ _ _ _ _ _ _) (fun x hx hm => by rw [List.mem_singleton] at hm; omega)
          have HB2 := Lib.hid (And.intro hO2 (put8_blk hBA HLL.out.2.1 y0 y1 y2 y3 y4 y5 y6 y7)); clear hO2 hBA fA lA a0 a1 a2 a3 a4 a5 a6 a7; have hr64 : (64 : Int) ≤ (r3.size : Int) := hrz
          go_wp2_with fail
          have hnx : r3.extract 64 r3.size = t.extract (64 * (k + 1)) t.size := by
            rw [← HLL.out.2.2.1, ByteArray.extract_extract, ByteArray.size_extract]
            congr 1 <;> omega
          have hb : r3.extract 0 64 = t.extract (64 * k) (64 * k + 64) := by
            rw [← HLL.out.2.2.1, ByteArray.extract_extract]
            congr 1 <;> omega
          have hst : hsV t L (k + 1) = [y0, y1, y2, y3, y4, y5, y6, y7] := by
            show roundV (stOf (hsV t L k)) (t.extract (64 * k) (64 * k + 64)) = _
            rw [HLL.out.1, ← hb, HM.out.1]; exact HM.out.2
          refine ⟨⟨k + 1, by rw [← hnx], by omega, Lib.hid ⟨HB2.out.1, by rw [hst]; exact HB2.out.2⟩⟩, ?_⟩
          show (r3.extract 64 r3.size).size < r3.size
          rw [ByteArray.size_extract]; omega
        have hkm : k = m := by have := HT.out.2; omega
        have hr0 : (t.extract (64 * k) t.size).size = 0 := by rw [hsz]; have := HT.out.2; omega
        obtain ⟨r4, hr4⟩ : ∃ r4, t.extract (64 * k) t.size = r4 := ⟨_, rfl⟩
        rw [hr4] at hr0; rw [hr4]; have he : r4.toList = [] := by rw [toList_str]; exact List.eq_nil_of_length_eq_zero (by rw [str_size]; exact hr0)
        have he' : r4.toList.isEmpty = true := by rw [he]; rfl
        obtain ⟨Lf, hLf⟩ : ∃ Lf, hsV t L k = Lf := ⟨_, rfl⟩
        have hLfl : Lf.length = 8 := by rw [← hLf]; exact hsV_len t L HLL0.out k
        have HV := Lib.hid (show sumS s = Lf by
          obtain ⟨h1, h2, h3⟩ := HLL.out; obtain ⟨z1, z2, -⟩ := HZS.out; rw [HK0.out] at h1 h2; have hp : padV s = t := by
            unfold padV restV; rw [h2, HZZ.out, z1, z2, HQ.out.1, HT.out.1]
          unfold sumS; rw [hp, h1, HT.out.2, Nat.mul_div_cancel_left m (by decide), ← hkm]; exact hLf)
        rw [hLf] at HR; clear hkm hr0 hr4 hLf hsz hk hlt
        go_upto_region 19 with fail
        refine code_gen (fun W => Hid (Off [] w W ∧ Blk W w.heap.size 256 (wCells Lf) ∧ Blk W wr.heap.size 261 (uCells (outB Lf 0)))) (Lib.hid ⟨HR.out.1.alloc _, HR.out.2.alloc _, Blk.new wr _ _⟩) ?_
        rintro W4 HW4; have hgw : w.heap.size ≤ wr.heap.size := HR.out.1.size
        obtain ⟨g8, hg8⟩ : ∃ g8, wr.heap.size = g8 := ⟨_, rfl⟩
        rw [hg8] at HW4 hgw; rw [hg8]; have HGW := Lib.hid hgw; clear hg8 hgw HR; obtain ⟨d0, d1, d2, d3, d4, d5, d6, d7⟩ := cells8 HW4.out.2.1 hLfl; have hl4 := HW4.out.2.1.lt; have HLF := Lib.hid hLfl
        go_wp2_with fail
        clear d0 d1 d2 d3 d4 d5 d6 d7 hl4 hLfl
        go_loopw [60] (fun x wq => ∃ i : Nat, x = .int .i64 i ∧ i ≤ 8 ∧ Hid (Off [] w wq ∧ Blk wq g8 261 (uCells (outB Lf (4 * i))))) (fun x _ => 8 - (intOf x).toNat)
        case atStart => exact ⟨0, rfl, Nat.zero_le _, Lib.hid ⟨HW4.out.1, HW4.out.2.2⟩⟩
        case round =>
          clear HW4; obtain ⟨i, rfl, hi, HI⟩ := hrel
          by_cases hlt : i < 8
          · have hiI : (i : Int) < 8 := by omega
            have hix := fun W => ixL HLF.out W i hlt
            obtain ⟨xi, hxi⟩ : ∃ xi, Lf.getD i 0 = xi := ⟨_, rfl⟩
            rw [hxi] at hix; have HXI := Lib.hid hxi; clear hxi
            go_wp2_with fail
            go_loopw [64] (fun x wq => ∃ j : Nat, x = .int .i64 j ∧ j ≤ 4 ∧ Hid (Off [] w wq ∧ Blk wq g8 261 (uCells (outB Lf (4 * i + j))))) (fun x _ => 4 - (intOf x).toNat)
            case atStart => exact ⟨0, rfl, Nat.zero_le _, HI⟩
            case round =>
              clear HI hix; obtain ⟨j, rfl, hj, HJ⟩ := hrel
              by_cases hlj : j < 4
              · have hl8 := HJ.out.2.lt
                have hf8 := HJ.out.2.frozen; have c8 : ∃ x, wr.cell? ⟨g8, 4 * i + j, none⟩ = some (.int .u8 x) := ⟨_, by rw [HJ.out.2.cell, uCells_get, List.getElem?_eq_getElem (by rw [outB_len]; omega)]; rfl⟩
                obtain ⟨x8, c8⟩ := c8; have m1 : IntKind.i64.wrap (4 * (i : Int)) = 4 * (i : Int) := IntWalk.i64_in _ (by omega)
                have m2 : IntKind.i64.wrap (4 * (i : Int) + (j : Int)) = 4 * (i : Int) + (j : Int) := IntWalk.i64_in _ (by omega)
                have m3 : IntKind.i64.wrap (8 * (j : Int)) = 8 * (j : Int) := IntWalk.i64_in _ (by omega)
                have m4 : IntKind.i64.wrap (24 - 8 * (j : Int)) = 24 - 8 * (j : Int) := IntWalk.i64_in _ (by omega)
                have m5 : ¬ (24 - 8 * (j : Int)) < 0 := by omega
                have m6 : (0 : Int) ≤ 4 * (i : Int) + (j : Int) := by omega
                have m7 : 4 * (i : Int) + (j : Int) < 32 := by omega
                have m8 : (4 * (i : Int) + (j : Int)).toNat = 4 * i + j := by omega
                have hjI : (j : Int) < 4 := by omega
                go_wp2_with fail
                refine ⟨⟨j + 1, by congr 1, by omega, Lib.hid ⟨HJ.out.1.setCell (.inl HGW.out) _, ?_⟩⟩, by simp only [intOf]; omega⟩
                have hob : outB Lf (4 * i + (j + 1)) = (outB Lf (4 * i + j)).set (4 * i + j) (xi / 2 ^ (24 - 8 * j) % 256) := by
                  show (outB Lf (4 * i + j)).set (4 * i + j) ((Lf.getD ((4 * i + j) / 4) 0 / 2 ^ (24 - 8 * ((4 * i + j) % 4))) % 256) = _
                  rw [show (4 * i + j) / 4 = i by omega, show (4 * i + j) % 4 = j by omega, HXI.out]
                rw [hob, ← uCells_set]; exact HJ.out.2.set_ (4 * i + j) _
              have hj4 : j = 4 := by omega
              rw [hj4] at HJ; clear hj4 hj
              go_wp2_with fail
              exact ⟨⟨i + 1, by congr 1, by omega, HJ⟩, by simp only [intOf]; omega⟩
          have hi8 : i = 8 := by omega
          rw [hi8] at HI; have hback := run_convert_bytes_back (P := Tryz.prog) wr 183 9 5 ⟨g8, 0, none⟩ 32 (bytesI (outB Lf 32)) Tryz.underlying183 Tryz.underlying5 Tryz.underlying9 (bytesI_at (outB_in _ 32) HI.out.2); rw [bytesI_len, outB_len] at hback; rw [← HV.out] at hback; have HO := Lib.hid HI.out.1; have hl8 := HI.out.2.lt; clear hi8 hi HI
          go_wp2_with fail
          go_ret
          exact ⟨rfl, HO.out⟩
end
section
open Go.RowKit Go.Op
theorem sum_any (s : ByteArray) (w : World) (hs : s.size ≤ 1000000) : Calls Tryz.prog 121 #[.string s] w fun e w' => e = .returned (.string (sumV s)) ∧ Off [] w w' :=
  sumT_any s w hs (Lib.hid fun c w hc => repeat_zeros c w hc) (Lib.hid fun s b w hb => round_any s b w hb)
end
section
open Go.RowKit Go.Maps
abbrev KnP := Node × (Int × Int × Int)
def knV (x : KnP) : Value := .agg #[.string x.1.path, .int .i64 x.1.kind, .string x.1.data, .int .i64 x.1.mode, .int .i64 x.2.1, .int .i64 x.2.2.1, .int .i64 x.2.2.2]
def knD (x : KnP) : DataW Unit := .agg [.lit (strL x.1.path), .lit (.int .i64 x.1.kind), .lit (strL x.1.data), .lit (.int .i64 x.1.mode), .lit (.int .i64 x.2.1), .lit (.int .i64 x.2.2.1), .lit (.int .i64 x.2.2.2)]
def knElem (v : Value) : Option (DataW Unit × List MemPlace) :=
  match v with
  | .agg xs => match xs.toList with
    | [.string p, .int .i64 k, .string d, .int .i64 m, .int .i64 a, .int .i64 b, .int .i64 c] => some (knD (⟨p, k, d, m⟩, (a, b, c)), [])
    | _ => none
  | _ => none
theorem knElem_mk (x : KnP) : knElem (knV x) = some (knD x, []) := rfl
theorem knElem_inv {v : Value} {z : DataW Unit × List MemPlace} (h : knElem v = some z) : ∃ x, v = knV x ∧ z = (knD x, []) := by
  unfold knElem at h
  split at h
  · rename_i xs
    split at h
    · rename_i p k d m a b c hx
      refine ⟨(⟨p, k, d, m⟩, (a, b, c)), ?_, (Option.some.inj h).symm⟩
      unfold knV
      congr 1
      exact Array.toList_inj.1 hx
    cases h
  cases h
theorem knD_inj {x y : KnP} (h : knD x = knD y) : x = y := by
  obtain ⟨⟨p, k, d, m⟩, a, b, c⟩ := x; obtain ⟨⟨p', k', d', m'⟩, a', b', c'⟩ := y; unfold knD at h; simp only [DataW.agg.injEq, List.cons.injEq, DataW.lit.injEq, Lit.int.injEq, true_and, and_true] at h; obtain ⟨h1, h2, h3, h4, h5, h6, h7⟩ := h; rw [strL_inj h1, h2, strL_inj h3, h4, h5, h6, h7]
def knAt (l : List KnP) (p : ByteArray) : Option KnP := l.reverse.find? fun x => decide (x.1.path = p)
theorem knAt_snoc (l : List KnP) (x : KnP) (p : ByteArray) : knAt (l ++ [x]) p = if x.1.path = p then some x else knAt l p := by
  unfold knAt; rw [List.reverse_append, List.reverse_singleton, List.singleton_append, List.find?_cons]
  by_cases h : x.1.path = p
  · rw [if_pos h, decide_eq_true h]
  rw [if_neg h, decide_eq_false h]
theorem knAt_mem {l : List KnP} {p : ByteArray} {x : KnP} (h : knAt l p = some x) : x ∈ l ∧ x.1.path = p := by
  unfold knAt at h; exact ⟨List.mem_reverse.1 (List.mem_of_find?_eq_some h), by simpa using List.find?_some h⟩
def KMat (w : World) (b : Nat) (l : List KnP) : Prop :=
  ∃ D : DataW Unit, w.ownsMap Tryz.prog 9 knElem b l.length D ∧ ∀ p, match knAt l p with | none => has D (strL p) = false | some x => has D (strL p) = true ∧ ∀ z, D.atKey (strL p) z = knD x
theorem KMat.new (w : World) : KMat (w.alloc (.map #[] 0)) w.heap.size [] :=
  ⟨.map [], World.ownsMap_made w _ _ _, fun p => by simp [knAt, has]⟩
theorem KMat.off {w w' : World} {b : Nat} {l : List KnP} {k : List Nat} (h : KMat w b l) (ho : Off k w w') (hb : b ∉ k) : KMat w' b l := by
  obtain ⟨D, hD, hr⟩ := h; exact ⟨D, ownsMap_off hD ho hb, hr⟩
theorem kn0 (w : World) : (zeroValue 150).run Tryz.prog w = .ok (knV (⟨⟨#[]⟩, 0, ⟨#[]⟩, 0⟩, (0, 0, 0))) w := by kernel_rfl
set_option maxRecDepth 100000 in
theorem KMat.add {w : World} {b : Nat} {l : List KnP} (h : KMat w b l) (hl : l.length ≤ 1000000000) (x : KnP) (hp : x.1.path.size ≤ maxLen) :
    ∃ w', (Instr.mapUpdate 147 (.map (some b)) (.string x.1.path) (knV x)).run Tryz.prog w = .ok () w' ∧ KMat w' b (l ++ [x]) ∧ w.grownBy w' (some b) := by
  obtain ⟨D, hD, hr⟩ := h; obtain ⟨w', hrun, hown, hg⟩ := hD.update strK Tryz.underlying147 (by unfold maxLen; omega) (WideMaps.keyOf_string_mk Tryz.underlying9 hp) (knElem_mk x); refine ⟨w', hrun, ⟨_, by simpa using hown, fun p => ?_⟩, hg⟩; rw [knAt_snoc]
  by_cases he : x.1.path = p
  · rw [if_pos he]
    subst he; exact ⟨has_put_same hD.isMap (isKey_str _) _, fun z => atKey_put_same hD.isMap (isKey_str _) _ _⟩
  rw [if_neg he]; have hne : strL p ≠ strL x.1.path := fun e => he (strL_inj e).symm
  have h1 := hr p
  cases hk : knAt l p with
  | none =>
    rw [hk] at h1; exact (has_put_other hne _).trans h1
  | some y =>
    rw [hk] at h1; exact ⟨(has_put_other hne _).trans h1.1, fun z => (atKey_put_other hne _ _).trans (h1.2 z)⟩
set_option maxRecDepth 100000 in
theorem KMat.look {w : World} {b : Nat} {l : List KnP} (h : KMat w b l) (p : ByteArray) (hp : p.size ≤ maxLen) :
    ∃ y, (Instr.lookup 147 (.map (some b)) (.string p) true).run Tryz.prog w = .ok (.tuple #[knV y, .bool (knAt l p).isSome]) w ∧ ∀ x, knAt l p = some x → y = x := by
  obtain ⟨D, hD, hr⟩ := h; obtain ⟨v, ps, hrun, hv⟩ := hD.look_ok strK Tryz.underlying147 (kn0 w) (knElem_mk _) (WideMaps.keyOf_string_mk Tryz.underlying9 hp); obtain ⟨y, rfl, hy⟩ := knElem_inv hv; have h1 := hr p; rw [show Lit.string p.data.toList = strL p from rfl] at hrun hy; refine ⟨y, ?_, fun x hx => ?_⟩
  · rw [hrun]
    cases hk : knAt l p with
    | none => rw [hk] at h1; rw [h1]; rfl
    | some x => rw [hk] at h1; rw [h1.1]; rfl
  rw [hx] at h1; rw [h1.2] at hy; exact (knD_inj (Prod.mk.inj hy).1).symm
end
section
open Go.RowKit Go.Op Go.Maps
def hashN (H : ByteArray → ByteArray) (n : Node) : Node := if n.kind = 2 then n else { n with data := H n.data }
def hashT (H : ByteArray → ByteArray) (t : List Node) : List Node := if okTree t then t.map (hashN H) else []
theorem hashN_path (H : ByteArray → ByteArray) (n : Node) : (hashN H n).path = n.path := by unfold hashN; split <;> rfl
theorem hashT_len (H : ByteArray → ByteArray) (t : List Node) : (hashT H t).length ≤ t.length := by
  unfold hashT
  split
  · rw [List.length_map]; exact Nat.le_refl _
  exact Nat.zero_le _
def useN (l : List KnP) (n : Node) (s : Int × Int × Int) : Node :=
  match knAt l n.path with
  | none => n
  | some k => if k.1.kind = n.kind ∧ k.1.mode = n.mode ∧ k.2 = s then { n with data := k.1.data } else n
def fastT (l : List KnP) (b : List Node) (S : List (Int × Int × Int)) : List Node := (b.zip S).map fun x => useN l x.1 x.2
def knownA (a : Arc) (fast : Bool) : List KnP := if fast && okArc a then a.tree.zip a.stamps else []
def printsV (H : ByteArray → ByteArray) (a : Arc) (fast : Bool) (T : List Node) (S : List (Int × Int × Int)) : List Node := fastT (knownA a fast) (hashT H T) S
theorem fastT_nil (b : List Node) (S : List (Int × Int × Int)) (h : b.length ≤ S.length) : fastT [] b S = b := by
  unfold fastT; rw [show (fun x : Node × (Int × Int × Int) => useN [] x.1 x.2) = Prod.fst from rfl]; exact List.map_fst_zip h
theorem node_ino {D : PDisk} {n : Nat} (h : Fine D n) {x : Node} (hx : x ∈ D.tree) : ∃ i m, D.inode i = some m ∧ x = { m.node with path := x.path } ∧ stampD D x = ((i : Int), (m.node.data.size : Int), m.time) := by
  obtain ⟨y, hy, m, hm, rfl⟩ := node_tree h.ok h.good.names hx; have hl := lookN_mem h.good.names hy; have ha : D.at_ y.1 = some m := by unfold PDisk.at_; rw [hl]; exact hm
  refine ⟨y.2, m, hm, rfl, ?_⟩
  unfold stampD; dsimp only; rw [ha, hl]
theorem seen_atF {D : PDisk} {n : Nat} (h : Fine D n) (ha : AgeOk D) {x : Node} (hx : x ∈ D.tree) : SeenIn D ⟨x, (stampD D x).1, (stampD D x).2.1, (stampD D x).2.2⟩ := by
  obtain ⟨i, m, h1, h2, h3⟩ := node_ino h hx; have ht : m.time ≤ D.clock := by
    refine ha m ?_
    unfold PDisk.inode at h1
    split at h1
    · cases h1
    exact List.mem_of_getElem? h1
  have := seen_new (p := x.path) h1 ht; rw [← h2] at this; rw [h3]; exact this
theorem fast_same {D0 D1 : PDisk} {n0 n1 : Nat} (h0 : Fine D0 n0) (h1 : Fine D1 n1) (ha : AgeOk D0) (hn : Nx D0 D1) (H : ByteArray → ByteArray) {T0 T1 : List Node} (hT0 : ∀ x ∈ T0, x ∈ D0.tree) (hT1 : ∀ x ∈ T1, x ∈ D1.tree)
    (a : Arc) (hat : a.tree = hashT H T0) (has : a.stamps = T0.map (stampD D0)) (fast : Bool) : printsV H a fast T1 (T1.map (stampD D1)) = hashT H T1 := by
  have hK : ∀ k ∈ knownA a fast, ∃ y ∈ T0, k.1 = hashN H y ∧ k.2 = stampD D0 y := by
    intro k hk
    unfold knownA at hk
    split at hk
    · rw [hat, has] at hk
      unfold hashT at hk
      split at hk
      · rw [List.zip_map'] at hk
        obtain ⟨y, hy, rfl⟩ := List.mem_map.1 hk; exact ⟨y, hy, rfl, rfl⟩
      simp at hk
    cases hk
  have hU : ∀ z ∈ T1, useN (knownA a fast) (hashN H z) (stampD D1 z) = hashN H z := by
    intro z hz
    unfold useN
    cases hk : knAt (knownA a fast) (hashN H z).path with
    | none => rfl
    | some k =>
      dsimp only
      split
      · rename_i hc
        obtain ⟨hkm, hkp⟩ := knAt_mem hk; obtain ⟨y, hy, e1, e2⟩ := hK k hkm; obtain ⟨i, m, g1, g2, g3⟩ := node_ino h1 (hT1 z hz); have hs := (seen_atF h0 ha (hT0 y hy)).next hn; rw [e1, hashN_path, hashN_path] at hkp; have hst : stampD D0 y = ((i : Int), (m.node.data.size : Int), m.time) := by rw [← g3, ← e2]; exact hc.2.2
        rw [hst] at hs; have heq := seen_same (p := z.path) hs g1 hkp rfl rfl rfl; have hyz : y = z := by rw [g2]; exact heq
        rw [e1, hyz]
      rfl
  unfold printsV; unfold hashT
  split
  · unfold fastT
    rw [List.zip_map', List.map_map]; refine List.map_congr_left fun z hz => ?_
    exact hU z hz
  rfl
end
section
open Go.RowKit Go.Op Go.Maps
section
variable {w w' : World} {k : List Nat}
theorem kept_cell {a : Addr} {q : Addr} (ho : Kept k w w') (hb : a.block ∈ k) (hq : q.block = a.block) : w'.cell? q = w.cell? q := by
  obtain ⟨b, o, sp⟩ := q; have hq : b = a.block := hq
  subst hq; unfold World.cell?; rw [ho _ hb]
theorem kept_lt {b : Nat} (ho : Kept k w w') (hb : b ∈ k) (hl : b < w.heap.size) : b < w'.heap.size := by
  have h := ho b hb; rw [Array.getElem?_eq_getElem hl] at h; exact (Array.getElem?_eq_some_iff.1 h).1
theorem Row.keptK {p : Option Addr} {t : List Node} (h : Row w p t) (ho : Kept k w w') (hb : ∀ a, t ≠ [] → p = some a → a.block ∈ k) : Row w' p t := fun hne => by
  obtain ⟨a, rfl, hl, hn⟩ := h hne; have hk := hb a hne rfl; refine ⟨a, rfl, kept_lt ho hk hl, fun i n hi => ?_⟩; have h1 := hn i n hi; have hbk := add_block a (i * 4)
  exact ⟨(kept_cell ho hk hbk).trans h1.path, (kept_cell (q := ⟨(a.add (i * 4)).block, (a.add (i * 4)).off + 1, none⟩) ho hk hbk).trans h1.kind, (kept_cell (q := ⟨(a.add (i * 4)).block, (a.add (i * 4)).off + 2, none⟩) ho hk hbk).trans h1.data, (kept_cell (q := ⟨(a.add (i * 4)).block, (a.add (i * 4)).off + 3, none⟩) ho hk hbk).trans h1.mode⟩
theorem SRow3.keptK {p : Option Addr} {t : List (Int × Int × Int)} (h : SRow3 w p t) (ho : Kept k w w') (hb : ∀ a, t ≠ [] → p = some a → a.block ∈ k) : SRow3 w' p t := fun hne => by
  obtain ⟨a, rfl, hl, hn⟩ := h hne; have hk := hb a hne rfl; refine ⟨a, rfl, kept_lt ho hk hl, fun i n hi => ?_⟩; have h1 := hn i n hi; have hbk := add_block a (i * 3)
  exact ⟨(kept_cell ho hk hbk).trans h1.i0, (kept_cell (q := ⟨(a.add (i * 3)).block, (a.add (i * 3)).off + 1, none⟩) ho hk hbk).trans h1.i1, (kept_cell (q := ⟨(a.add (i * 3)).block, (a.add (i * 3)).off + 2, none⟩) ho hk hbk).trans h1.i2⟩
end
def ArcK (K : List Nat) (w : World) (v : Value) (a : Arc) : Prop :=
  ArcAt w v a ∧ ∃ tp c sp d, v = .agg #[.string a.pair, .int .i64 a.serial, .slice tp a.tree.length c, .slice sp a.stamps.length d] ∧ (∀ x, a.tree ≠ [] → tp = some x → x.block ∈ K) ∧ (∀ x, a.stamps ≠ [] → sp = some x → x.block ∈ K)
theorem ArcK.kept {K : List Nat} {w w' : World} {v : Value} {a : Arc} (h : ArcK K w v a) (ho : Kept K w w') : ArcK K w' v a := by
  obtain ⟨⟨⟨tp, c, sp, d, e, h2, h3, h4⟩, h5, h6, h7, h8, h9⟩, tp', c', sp', d', e', k1, k2⟩ := h; obtain ⟨rfl, rfl, rfl, rfl⟩ : tp' = tp ∧ c' = c ∧ sp' = sp ∧ d' = d := by
    rw [e] at e'; simp only [Value.agg.injEq, Array.mk.injEq, List.cons.injEq, Value.slice.injEq, true_and, and_true] at e'; exact ⟨e'.1.1.symm, e'.1.2.symm, e'.2.1.symm, e'.2.2.symm⟩
  exact ⟨⟨⟨tp', c', sp', d', e, h2.keptK ho k1, h3.keptK ho k2, h4⟩, h5, h6, h7, h8, h9⟩, tp', c', sp', d', e', k1, k2⟩
theorem ArcK.off {K : List Nat} {w w' : World} {v : Value} {a : Arc} (h : ArcK K w v a) (ho : Off [] w w') : ArcK K w' v a := ⟨h.1.off ho, h.2⟩
theorem ArcK.sub {K K' : List Nat} {w : World} {v : Value} {a : Arc} (h : ArcK K w v a) (hk : ∀ b ∈ K, b ∈ K') : ArcK K' w v a := by
  obtain ⟨h1, tp, c, sp, d, e, k1, k2⟩ := h; exact ⟨h1, tp, c, sp, d, e, fun x a b => hk _ (k1 x a b), fun x a b => hk _ (k2 x a b)⟩
theorem srow_own {w : World} {base : Nat} {v : Value} {t : List (Int × Int × Int)} (h : w.ownsRow base 117 3 v t.length (stCells t)) :
    ∃ p c, v = .slice p t.length c ∧ SRow3 w p t ∧ t.length ≤ c ∧ c ≤ maxLen ∧ (p = none → t = []) ∧ ∀ a, p = some a → a.block ∈ v.ownBlock.toList ∧ a = ⟨a.block, 0, none⟩ ∧ a.block < w.heap.size := by
  obtain ⟨p, c, rfl, hc, hm, hk⟩ := own_atG h
  by_cases hne : t = []
  · subst hne
    refine ⟨p, c, rfl, fun h => absurd rfl h, hc, hm, fun _ => rfl, fun a ha => ?_⟩
    subst ha
    rcases h.2 with ⟨h0, _⟩ | ⟨g, cap, cur, hv, hb, hh, _⟩
    · cases h0
    injection hv with h1 h2 h3
    injection h1 with h1
    subst h1; exact ⟨by simp [Value.ownBlock], rfl, (Array.getElem?_eq_some_iff.1 hh).1⟩
  obtain ⟨g, rfl, -, hl, -, k⟩ := hk (List.length_pos_iff.2 hne); refine ⟨_, c, rfl, fun _ => ⟨_, rfl, hl, fun i s hs => ?_⟩, hc, hm, (fun h => by cases h), fun a ha => ?_⟩
  · rw [addr_add]
    have hf := fun j (hj : j < 3) => flat_getG (fun s : Int × Int × Int => [Value.int .i64 s.1, .int .i64 s.2.1, .int .i64 s.2.2]) 3 (fun _ => rfl) t i j s hs hj
    exact ⟨k _ _ (hf 0 (by decide)), k _ _ (hf 1 (by decide)), k _ _ (hf 2 (by decide))⟩
  injection ha with ha
  subst ha; exact ⟨by simp [Value.ownBlock], rfl, hl⟩
theorem scan_quietC {w0 w : World} {d n0 n m c C : Nat} {L : List RuleP} {q : Option Addr} {D E : PDisk} {K : List Nat} (hF : Fine D n0) (ht : okTree D.tree = true) (hS : SameQ D E) (hr : RunE w0 w d E n K) (hR : RlK K w L q c) (hT : Tabs w0)
    (hb : BudC C (2 * D.tree.length + 1 + m) E n) :
    Calls Tryz.prog 14 #[.pointer (some ⟨d, 0, none⟩), .slice q L.length c] w fun e w' => ∃ tv sv bv n' E', e = .returned (.tuple #[tv, sv, bv, .int .i64 0]) ∧
      ThreeR w' tv sv bv (foundIn (seeV L) D.tree []) ((foundIn (seeV L) D.tree []).map (stampD D)) (blockIn (seeV L) D.tree ⟨#[]⟩) ∧
      RunE w0 w' d E' n' (blk3 tv sv bv ++ K) ∧ SameQ D E' ∧ BudC C m E' n' ∧ Kept K w w' := by
  obtain ⟨E', h1, h2⟩ := walk_quiet (see_ok L) hF ht 17 E ⟨#[]⟩ wk0 hS (.inl rfl) (Nat.le_add_right _ _); have h3 := walkC_le (see := seeV L) 17 E ⟨#[]⟩ wk0; rw [show str (⟨#[]⟩ : ByteArray) = [] from rfl] at h1; have hfl : (foundIn (seeV L) D.tree []).length ≤ D.tree.length := by
    unfold foundIn subN; exact Nat.le_trans (List.length_filter_le _ _) (List.length_filter_le _ _)
  have htl := okTree_len ht; rw [h1] at h3; have h4 : walkC (seeV L) 17 E ⟨#[]⟩ wk0 ≤ 2 * (foundIn (seeV L) D.tree []).length + 1 := by
    generalize walkC (seeV L) 17 E ⟨#[]⟩ wk0 = vc at *
    simp only [bad01, if_true, Wk.plus, wk0, List.nil_append, List.length_nil] at h3
    omega
  have hsc := scan_any (w := w) (m := m) (Bud := BudC C) (budC w0 d C) hr hR hT ((budC w0 d C).less hb (by omega)) (by omega); rw [h1] at hsc; refine hsc.mono ?_; rintro e w' ⟨tv, sv, bv, n', he, k1, k2, k3, k4, k5, k6⟩; refine ⟨tv, sv, bv, n', E', he, ⟨?_, ?_, ?_⟩, k4, h2, k5, k6⟩
  · simpa [Wk.plus, wk0] using k1
  · simpa [Wk.plus, wk0] using k2
  simpa [Wk.plus, wk0] using k3
theorem arcK_zero (K : List Nat) (w : World) : ArcK K w (.agg #[.string ⟨#[]⟩, .int .i64 0, .slice none 0 0, .slice none 0 0]) arc0 :=
  ⟨⟨⟨none, 0, none, 0, rfl, fun h => absurd rfl h, fun h => absurd rfl h, Nat.le_refl _, by decide, Nat.le_refl _, by decide, fun _ => ⟨rfl, rfl⟩⟩, (fun x hx => by cases hx), ⟨by decide, by decide⟩, by decide, ⟨by decide, by decide⟩, (fun s hs => by cases hs)⟩, none, 0, none, 0, rfl, fun x h => absurd rfl h, fun x h => absurd rfl h⟩
end
section
open Go.RowKit Go.Op Go.Maps
def hashB (s : ByteArray) : ByteArray := bs (hexV (str (sumV s)))
def mixF (f : Node → Node) (t : List Node) (i : Nat) : List Node := (t.take i).map f ++ t.drop i
theorem mixF_get {f : Node → Node} {t : List Node} {i : Nat} {x : Node} (h : t[i]? = some x) : (mixF f t i)[i]? = some x := by
  have hi := (List.getElem?_eq_some_iff.1 h).1; unfold mixF; rw [List.getElem?_append_right (by rw [List.length_map, List.length_take]; omega), List.length_map, List.length_take, List.getElem?_drop]; rw [show i + (i - min i t.length) = i by omega]; exact h
theorem mixF_set {f : Node → Node} {t : List Node} {i : Nat} {x : Node} (h : t[i]? = some x) : (mixF f t i).set i (f x) = mixF f t (i + 1) := by
  obtain ⟨hi, rfl⟩ := List.getElem?_eq_some_iff.1 h; have hl : ((t.take i).map f).length = i := by rw [List.length_map, List.length_take]; omega
  unfold mixF; rw [List.set_append_right _ _ (by omega), hl, Nat.sub_self, List.drop_eq_getElem_cons hi, List.set_cons_zero, List.take_succ_eq_append_getElem hi, List.map_append, List.append_assoc]
  rfl
theorem set_selfG {α : Type} : ∀ {l : List α} {i : Nat} {x : α}, l[i]? = some x → l.set i x = l
  | [], i, x, h => by simp at h
  | y :: l, 0, x, h => by simp at h; rw [h]; rfl
  | y :: l, i + 1, x, h => by
    rw [List.set_cons_succ, set_selfG (by simpa using h)]
theorem mixF_all (f : Node → Node) (t : List Node) : mixF f t t.length = t.map f := by
  unfold mixF; rw [List.take_length, List.drop_length, List.append_nil]
theorem mixF_zero (f : Node → Node) (t : List Node) : mixF f t 0 = t := by
  unfold mixF; simp
theorem cellsOf_setD : ∀ (t : List Node) (i : Nat) (x : Node) (u : ByteArray), t[i]? = some x → (cellsOf t).set (i * 4 + 2) (.string u) = cellsOf (t.set i { x with data := u })
  | [], i, x, u, h => by simp at h
  | y :: t, 0, x, u, h => by
    simp only [List.getElem?_cons_zero, Option.some.injEq] at h
    subst h
    rfl
  | y :: t, i + 1, x, u, h => by
    have ih := cellsOf_setD t i x u (by simpa using h); rw [show (i + 1) * 4 + 2 = i * 4 + 2 + 4 by omega]
    show ([_, _, _, _] ++ cellsOf t).set (i * 4 + 2 + 4) _ = [_, _, _, _] ++ cellsOf (t.set i _)
    rw [← ih]
    rfl
theorem nd_cells {t : List Node} {i : Nat} {x : Node} (h : t[i]? = some x) (j : Nat) (u : Value) (hj : [Value.string x.path, .int .i64 x.kind, .string x.data, .int .i64 x.mode][j]? = some u) : (cellsOf t)[i * 4 + j]? = some u :=
  flat_getG (fun n : Node => [.string n.path, .int .i64 n.kind, .string n.data, .int .i64 n.mode]) 4 (fun _ => rfl) t i j x h (by have := (List.getElem?_eq_some_iff.1 hj).1; simpa using this) ▸ hj
set_option maxRecDepth 100000 in
set_option maxHeartbeats 8000000 in
theorem abare_any (p : Option Addr) (t : List Node) (n c : Nat) (w : World) (hR : Row w p t) (hn : t.length = n) (hc : n ≤ c) (hnb : n ≤ 100000) (hpn : p = none → t = []) (hF : Fits t) (hT : Tabs w) :
    Calls Tryz.prog 77 #[.slice p n c] w fun e w' => ∃ v, e = .returned (.tuple #[v, .int .i64 (chkV t)]) ∧ w'.ownsRow w.heap.size 105 4 v (hashT hashB t).length (cellsOf (hashT hashB t)) ∧ Off [] w w' := by
  have HR := Lib.hid hR; have HN := Lib.hid hn; have HCK := Lib.hid (check_any p t n c w hR hn hc (by unfold maxLen; omega) hF hT); have HCL := Lib.hid (fun (W : World) (ho : Off [] w W) => clone_any p t n c W (hR.off ho) hn (by omega) hpn); clear hR hn hT hF hpn
  go_enter Tryz.func77, Tryz.ntmps77
  cases hok : okTree t
  · rw [chkV_bad hok] at HCK ⊢
    have HH := Lib.hid (show hashT hashB t = [] by unfold hashT; rw [hok]; rfl); clear hok
    go_wp2_with fail
    refine HCK.out.mono ?_
    rintro e w1 ⟨rfl, ho1⟩
    go_wp2_with fail
    go_ret2
    refine ⟨_, rfl, ?_, ho1⟩
    rw [HH.out]; exact World.ownsRow_nil _ _ _ _
  rw [chkV_ok hok] at HCK ⊢; have HH := Lib.hid (show hashT hashB t = t.map (hashN hashB) by unfold hashT; rw [hok]; rfl); have HDT := Lib.hid (show ∀ x ∈ t, x.data.size ≤ 65536 from fun x hx => rightN_data (okTree_right hok hx)); clear hok
  go_wp2_with fail
  refine HCK.out.mono ?_
  rintro e w1 ⟨rfl, ho1⟩; have HO1 := Lib.hid ho1; clear ho1
  go_wp2_with fail
  refine (HCL.out _ HO1.out).mono ?_
  rintro e w2 ⟨v, rfl, hv, ho2⟩; obtain ⟨p2, cc, rfl, -, -, -⟩ := own_atG hv; have HO2 := Lib.hid (HO1.out.trans_nil ho2); have HV := Lib.hid (show w2.ownsRow w.heap.size 105 4 (.slice p2 n cc) n (cellsOf (mixF (hashN hashB) t 0)) by rw [mixF_zero]; exact own_base hv HO1.out.size); clear ho2 hv
  go_wp2_with fail
  go_loopw [13] (fun x wr => ∃ i : Nat, x = .int .i64 i ∧ i ≤ n ∧ Hid (wr.ownsRow w.heap.size 105 4 (.slice p2 n cc) n (cellsOf (mixF (hashN hashB) t i))) ∧ Hid (Off [] w wr)) (fun x _ => n - (intOf x).toNat)
  case atStart => exact ⟨0, rfl, Nat.zero_le _, HV, HO2⟩
  case round =>
    clear HV HO2; obtain ⟨i, rfl, hi, HV, HO⟩ := hrel
    by_cases hlt : i < n
    · obtain ⟨x, hx⟩ : ∃ x, t[i]? = some x := ⟨t[i]'(by rw [HN.out]; exact hlt), List.getElem?_eq_getElem _⟩
      have hm := mixF_get (f := hashN hashB) hx; obtain ⟨p9, c9, e0, -, -, k0⟩ := own_atG HV.out; injection e0 with e1 e2 e3
      subst e1 e3; obtain ⟨g, rfl, hgb, hgl, -, k0⟩ := k0 (by omega); have c0 : wr.cell? ⟨g, i * 4, none⟩ = some (.string x.path) := k0 (i * 4) _ (nd_cells hm 0 _ rfl)
      have c1 : wr.cell? ⟨g, i * 4 + 1, none⟩ = some (.int .i64 x.kind) := k0 (i * 4 + 1) _ (nd_cells hm 1 _ rfl)
      have c2 : wr.cell? ⟨g, i * 4 + 2, none⟩ = some (.string x.data) := k0 (i * 4 + 2) _ (nd_cells hm 2 _ rfl)
      have c3 : wr.cell? ⟨g, i * 4 + 3, none⟩ = some (.int .i64 x.mode) := k0 (i * 4 + 3) _ (nd_cells hm 3 _ rfl)
      have HX := Lib.hid hx; have HM := Lib.hid hm; have hltI : (i : Int) < (n : Int) := by omega
      clear hx hm k0
      go_upto_region 7 with fail
      refine code_gen (fun W => Hid (W.ownsRow w.heap.size 105 4 (.slice (some ⟨g, 0, none⟩) n cc) n (cellsOf (mixF (hashN hashB) t i)) ∧ Blk W wr.heap.size 105 #[.string x.path, .int .i64 x.kind, .string x.data, .int .i64 x.mode] ∧ Off [] w W)) (Lib.hid ⟨HV.out.alloc _, Blk.new _ _ _, HO.out.alloc _⟩) ?_
      rintro W HW; clear c0 c1 c2 c3 HV HO hgl; have hxc := HW.out.2.1.cell; have hxl := HW.out.2.1.lt
      by_cases hk : x.kind = 2
      · have HS := Lib.hid (show hashN hashB x = x by unfold hashN; rw [if_pos hk])
        have hkb : (x.kind != 2) = false := by rw [hk]; rfl
        have hset : (mixF (hashN hashB) t i) = mixF (hashN hashB) t (i + 1) := by
          rw [← mixF_set HX.out, HS.out]; exact (set_selfG HM.out).symm
        have HS2 := Lib.hid hset; clear hset hk
        go_wp2_with fail
        refine ⟨⟨i + 1, by congr 1, by omega, Lib.hid ?_, Lib.hid HW.out.2.2⟩, by simp only [intOf]; omega⟩
        rw [← HS2.out]; exact HW.out.1
      have hkb : (x.kind != 2) = true := by simpa using hk
      have HS := Lib.hid (show hashN hashB x = { x with data := hashB x.data } by unfold hashN; rw [if_neg hk]); have hds := HDT.out x (List.mem_of_getElem? HX.out); have HSM := Lib.hid (fun W => sum_any x.data W (by omega)); have HHX := Lib.hid (fun W => hex_any (sumV x.data) W (by rw [sumV_size]; decide) (by rw [sumV_size]; decide))
      rw [show bs (hexV (str (sumV x.data))) = hashB x.data from rfl] at HHX; obtain ⟨u, hu⟩ : ∃ u, hashB x.data = u := ⟨_, rfl⟩
      rw [hu] at HHX HS; clear hk hds hu
      go_wp2_with fail
      refine (HSM.out _).mono ?_
      rintro e w4 ⟨rfl, ho4⟩; have HW4 := Lib.hid (And.intro (own_offk (k := []) HW.out.1 ho4 (by simp)) (HW.out.2.2.trans_nil ho4)); clear ho4
      go_wp2_with fail
      refine (HHX.out _).mono ?_
      rintro e w5 ⟨rfl, ho5⟩; have HW5 := Lib.hid (And.intro (own_offk (k := []) HW4.out.1 ho5 (by simp)) (HW4.out.2.trans_nil ho5)); clear ho5 HW4; have hfz : w5.frozen? ⟨g, i * 4 + 2, none⟩ = false := own_frozen2 HW5.out.1 (i * 4 + 2)
      obtain ⟨p9, c9, e0, -, -, k0⟩ := own_atG HW5.out.1; injection e0 with e1 e2 e3
      subst e1 e3; obtain ⟨g9, e4, -, hgl5, -, k0⟩ := k0 (by omega); injection e4 with e4
      injection e4 with e4
      subst e4; have c5 : w5.cell? ⟨g, i * 4 + 2, none⟩ = some (.string x.data) := k0 (i * 4 + 2) _ (nd_cells HM.out 2 _ rfl)
      clear k0
      go_wp2_with fail
      refine ⟨⟨i + 1, by congr 1, by omega, Lib.hid ?_, Lib.hid (HW5.out.2.setCell (.inl hgb) _)⟩, by simp only [intOf]; omega⟩
      rw [← mixF_set HX.out, HS.out, ← cellsOf_setD _ _ _ _ HM.out]; exact own_set2 HW5.out.1 (i * 4 + 2) (.string u)
    obtain rfl : i = n := by omega
    have hz := HV.out; rw [show mixF (hashN hashB) t i = t.map (hashN hashB) by rw [← HN.out]; exact mixF_all _ _] at hz; have HZ := Lib.hid hz; clear hz hlt hi HV
    go_wp2_with fail
    go_ret2
    refine ⟨_, rfl, ?_, HO.out⟩
    rw [HH.out, List.length_map, HN.out]; exact HZ.out
end
section
open Go.RowKit Go.Op Go.Maps
theorem eqStampP (a b c x y z : Int) (w : World) : (Op.equalIn 10000 117 (.agg #[.int .i64 a, .int .i64 b, .int .i64 c]) (.agg #[.int .i64 x, .int .i64 y, .int .i64 z])).run Tryz.prog w = .ok (decide (a = x ∧ b = y ∧ c = z)) w := by
  have u3 := Tryz.underlying3; have a3 := Tryz.isAgg3; have z3 := Tryz.sizeOf3; have hS : Tryz.prog.underlying 117 = some (.struct (Tryz.prog.fieldsOf 117)) := by kernel_rfl
  have hp : Tryz.prog.stoodInHeld 117 = false := by kernel_rfl
  rw [show (10000 : Nat) = 9999 + 1 from rfl, run_equalIn_agg w 9999 117 _ _ hS hp]; simp only [Program.fieldsOf, Tryz.underlying117]
  go_simp
  by_cases h1 : a = x
  · subst h1
    by_cases h2 : b = y
    · subst h2
      by_cases h3 : c = z
      · subst h3; simp
      simp [h3]
    simp [h2]
  simp [h1]
def mix2 (f t : List Node) (i : Nat) : List Node := f.take i ++ t.drop i
section
variable {f t : List Node} {i : Nat} {x y : Node}
theorem mix2_get (hl : f.length = t.length) (h : t[i]? = some x) : (mix2 f t i)[i]? = some x := by
  have hi := (List.getElem?_eq_some_iff.1 h).1; unfold mix2; rw [List.getElem?_append_right (by rw [List.length_take]; omega), List.length_take, List.getElem?_drop, show i + (i - min i f.length) = i by omega]; exact h
theorem mix2_set (hl : f.length = t.length) (h : t[i]? = some x) (hf : f[i]? = some y) : (mix2 f t i).set i y = mix2 f t (i + 1) := by
  obtain ⟨hi, rfl⟩ := List.getElem?_eq_some_iff.1 h; obtain ⟨hj, rfl⟩ := List.getElem?_eq_some_iff.1 hf; have h1 : (f.take i).length = i := by rw [List.length_take]; omega
  unfold mix2; rw [List.set_append_right _ _ (by omega), h1, Nat.sub_self, List.drop_eq_getElem_cons hi, List.set_cons_zero, List.take_succ_eq_append_getElem hj, List.append_assoc]
  rfl
theorem mix2_same (hl : f.length = t.length) (h : t[i]? = some x) (hf : f[i]? = some x) : mix2 f t i = mix2 f t (i + 1) := by
  rw [← mix2_set hl h hf]; exact (set_selfG (mix2_get hl h)).symm
theorem mix2_all (hl : f.length = t.length) : mix2 f t t.length = f := by
  unfold mix2; rw [← hl, List.take_length, hl, List.drop_length, List.append_nil]
theorem mix2_zero : mix2 f t 0 = t := by unfold mix2; simp
end
theorem fastT_len (l : List KnP) (b : List Node) (S : List (Int × Int × Int)) (h : b.length ≤ S.length) : (fastT l b S).length = b.length := by
  unfold fastT; rw [List.length_map, List.length_zip]; omega
theorem fastT_at {l : List KnP} {b : List Node} {S : List (Int × Int × Int)} {i : Nat} {x : Node} {s : Int × Int × Int} (hx : b[i]? = some x) (hs : S[i]? = some s) : (fastT l b S)[i]? = some (useN l x s) := by
  unfold fastT; rw [List.getElem?_map, (List.getElem?_zip_eq_some (z := (x, s))).2 ⟨hx, hs⟩]
  rfl
theorem zip_take {a : List Node} {b : List (Int × Int × Int)} {i : Nat} {x : Node} {s : Int × Int × Int} (hx : a[i]? = some x) (hs : b[i]? = some s) : (a.zip b).take (i + 1) = (a.zip b).take i ++ [(x, s)] :=
  take_get ((List.getElem?_zip_eq_some (z := (x, s))).2 ⟨hx, hs⟩)
set_option maxRecDepth 100000 in
set_option maxHeartbeats 16000000 in
theorem prints_quiet {w0 w : World} {d n0 n m c C : Nat} {L : List RuleP} {q : Option Addr} {D E : PDisk} {K : List Nat} (v : Value) (a : Arc) (fast : Bool) (hF : Fine D n0) (ht : okTree D.tree = true) (hS : SameQ D E) (hr : RunE w0 w d E n K) (hR : RlK K w L q c) (hA : ArcK K w v a) (hT : Tabs w0)
    (hb : BudC C (2 * D.tree.length + 1 + m) E n) :
    Calls Tryz.prog 23 #[.pointer (some ⟨d, 0, none⟩), .slice q L.length c, v, .bool fast] w fun e w' => ∃ tv sv bv n' E', e = .returned (.tuple #[tv, sv, bv, .int .i64 0]) ∧
      ThreeR w' tv sv bv (printsV hashB a fast (foundIn (seeV L) D.tree []) ((foundIn (seeV L) D.tree []).map (stampD D))) ((foundIn (seeV L) D.tree []).map (stampD D)) (blockIn (seeV L) D.tree ⟨#[]⟩) ∧
      RunE w0 w' d E' n' (blk3 tv sv bv ++ K) ∧ SameQ D E' ∧ BudC C m E' n' ∧ Kept K w w' := by
  obtain ⟨i0, hi0, hz0, hz1, hz2⟩ := info_parts infoNode; have HA := Lib.hid hA; obtain ⟨⟨⟨tp, ct, sp, cs, rfl, -⟩, -⟩, -⟩ := hA; have hlt : ∀ b ∈ K, b < w.heap.size := fun b hb => by obtain ⟨G, -, -, -, -, h5⟩ := hr; exact (h5 b hb).1
  have ho := (Off.refl [] w).alloc (.cells #[.string a.pair, .int .i64 a.serial, .slice tp a.tree.length ct, .slice sp a.stamps.length cs] 30); have HR1 := Lib.hid (hr.more (k' := [w.heap.size]) ho (fun b hb => by simp at hb; subst hb; simp)); have HRL := Lib.hid hR; have HT := Lib.hid hT
  have HSC := Lib.hid (scan_quietC (m := m) hF ht hS HR1.out (⟨(hR.1.off ho), fun h2 a2 e2 => List.mem_cons_of_mem _ (hR.2 h2 a2 e2)⟩ : RlK ([w.heap.size] ++ K) _ L q c) hT hb); have hTs : ∀ x ∈ foundIn (seeV L) D.tree [], x ∈ D.tree := fun x hx => (List.mem_filter.1 (List.mem_filter.1 hx).1).1
  have HTF := Lib.hid (show Fits (foundIn (seeV L) D.tree []) from fun x hx => by
    have h1 := okTree_small ht (hTs x hx); have h2 := rightN_data (okTree_right ht (hTs x hx)); unfold maxLen; omega)
  have HTP := Lib.hid (show ∀ x ∈ foundIn (seeV L) D.tree [], x.path.size ≤ 400 from fun x hx => okTree_small ht (hTs x hx)); have htl : (foundIn (seeV L) D.tree []).length ≤ 1000 := by
    have h1 := okTree_len ht; have h2 : (foundIn (seeV L) D.tree []).length ≤ D.tree.length := by
      unfold foundIn subN; exact Nat.le_trans (List.length_filter_le _ _) (List.length_filter_le _ _)
    omega
  have hTS : ((foundIn (seeV L) D.tree []).map (stampD D)).length = (foundIn (seeV L) D.tree []).length := List.length_map _
  clear hTs; generalize foundIn (seeV L) D.tree [] = T at *; generalize T.map (stampD D) = S at *; generalize blockIn (seeV L) D.tree ⟨#[]⟩ = B at *; generalize hnL : L.length = nL at *
  obtain ⟨N, hN⟩ : ∃ N, T.length = N := ⟨_, rfl⟩
  have HN := Lib.hid hN; rw [hN] at htl hTS; have HTS := Lib.hid hTS; have HLT := Lib.hid hlt; obtain ⟨nt, hnt⟩ : ∃ nt, a.tree.length = nt := ⟨_, rfl⟩
  obtain ⟨ns, hns⟩ : ∃ ns, a.stamps.length = ns := ⟨_, rfl⟩
  have HG0 := Lib.hid (Blk.new w 30 #[.string a.pair, .int .i64 a.serial, .slice tp a.tree.length ct, .slice sp a.stamps.length cs]); have HKO := Lib.hid (Kept.of_off ho hlt); rw [hnt, hns] at HA HR1 HSC HG0 HKO; rw [hnt, hns]; have HNS := Lib.hid (And.intro hnt hns); clear hr hR hT hb hF ht hS ho hlt hN hTS hnL hnt hns
  go_enter Tryz.func23, Tryz.ntmps23
  go_upto_region 1 with fail
  go_wp2_with fail
  refine HSC.out.mono ?_
  rintro e w3 ⟨tv, sv, bv, n3, E3, rfl, h3, hr3, hsq3, hbd3, hk3⟩; obtain ⟨h1, h2, h4⟩ := h3; rw [HN.out] at h1; rw [HTS.out] at h2; obtain ⟨pt, ctt, rfl, hct, -, -⟩ := own_atG h1; obtain ⟨ps, cts, rfl, -, -, -⟩ := own_atG h2; have HT3 := Lib.hid h1; have HS3 := Lib.hid h2; have HB3 := Lib.hid h4; have HR3 := Lib.hid hr3; have HQ3 := Lib.hid (And.intro hsq3 hbd3)
  have HK3 := Lib.hid (HKO.out.trans hk3.right); have HG3 := Lib.hid (hk3.blk HG0.out (by simp)); have HA3 := Lib.hid (HA.out.kept HK3.out); clear h1 h2 h4 hr3 hsq3 hbd3 hk3 HSC HKO HG0 HR1 HA; obtain ⟨ga, hga⟩ : ∃ ga, w.heap.size = ga := ⟨_, rfl⟩
  rw [hga] at HG3; rw [hga]; clear hga
  go_wp2_with fail
  rw [run_makeMap]; simp only [Result.andThen]; rw [Oper.upon_value]; obtain ⟨gm, hgm⟩ : ∃ gm, w3.heap.size = gm := ⟨_, rfl⟩
  have hkm := KMat.new w3; rw [hgm] at hkm; rw [hgm]; have HGM := Lib.hid hgm; have hRow : Row w3 tp a.tree ∧ SRow3 w3 sp a.stamps := by
    obtain ⟨⟨⟨tp', c', sp', d', e, h2, h3, -⟩, -⟩, -⟩ := HA3.out; simp only [Value.agg.injEq, Array.mk.injEq, List.cons.injEq, Value.slice.injEq, true_and, and_true] at e; obtain ⟨⟨e1, -, -⟩, e2, -, -⟩ := e; exact ⟨by rw [e1]; exact h2, by rw [e2]; exact h3⟩
  have HROW := Lib.hid hRow; clear hgm hRow
  go_upto_region 5 with fail
  refine code_gen (fun W => Hid (Off [] w3 W ∧ KMat W gm [])) (Lib.hid ⟨(Off.refl _ _).alloc _, hkm⟩) ?_
  clear hkm; rintro W4 HW4; have hgc := (HG3.out.off HW4.out.1 (by simp)).cell; have hgl := (HG3.out.off HW4.out.1 (by simp)).lt
  go_cut [42] from 37 to 42 (fun v wx => v = .bool (fast && okArc a) ∧ Hid (Off [] w3 wx ∧ KMat wx gm []))
  case first =>
    cases fast
    · go_wp2_with fail
      go_meet
      exact ⟨rfl, HW4⟩
    cases hoa : okArc a
    · have HCK := Lib.hid (acheck_any _ a W4 ((HA3.out.off HW4.out.1).1) ((HR3.out.tabs).off HW4.out.1) 90 (by unfold chkA; rw [hoa]; rfl))
      have HOA := Lib.hid hoa; clear hoa
      go_wp2_with fail
      refine HCK.out.mono ?_
      rintro e wq ⟨rfl, hoq⟩
      go_wp2_with fail
      go_meet
      exact ⟨by rw [HOA.out]; rfl, Lib.hid ⟨HW4.out.1.trans_nil hoq, HW4.out.2.off hoq (by simp)⟩⟩
    have HCK := Lib.hid (acheck_any _ a W4 ((HA3.out.off HW4.out.1).1) ((HR3.out.tabs).off HW4.out.1) 0 (by unfold chkA; rw [hoa]; rfl)); have HOA := Lib.hid hoa; clear hoa
    go_wp2_with fail
    refine HCK.out.mono ?_
    rintro e wq ⟨rfl, hoq⟩
    go_wp2_with fail
    go_meet
    exact ⟨by rw [HOA.out]; rfl, Lib.hid ⟨HW4.out.1.trans_nil hoq, HW4.out.2.off hoq (by simp)⟩⟩
  obtain ⟨rfl, HWC⟩ := hcut; clear HW4 hgc hgl; obtain ⟨l, hl⟩ : ∃ l, knownA a fast = l := ⟨_, rfl⟩
  have HL := Lib.hid hl
  go_upto_if 42 with fail
  go_cut [] (fun wx => Hid (Off [] w3 wx ∧ KMat wx gm l))
  case first =>
    cases hfo : (fast && okArc a)
    · have HL0 := Lib.hid (show l = [] by rw [← hl]; unfold knownA; rw [hfo]; rfl)
      clear hl hfo
      go_wp2_with fail
      go_meet
      refine Lib.hid ⟨HWC.out.1, ?_⟩
      rw [HL0.out]; exact HWC.out.2
    have HL0 := Lib.hid (show l = a.tree.zip a.stamps by rw [← hl]; unfold knownA; rw [hfo]; rfl); have hoa : okArc a = true := by rw [Bool.and_eq_true] at hfo; exact hfo.2
    unfold okArc at hoa; simp only [Bool.and_eq_true, decide_eq_true_eq] at hoa; obtain ⟨-, -, -, hbv, hsl, -⟩ := hoa; have hok : okTree a.tree = true := by unfold bareV at hbv; rw [Bool.and_eq_true] at hbv; exact hbv.1
    have HOK := Lib.hid hok; have hnt1 : nt ≤ 1000 := by rw [← HNS.out.1]; exact okTree_len hok
    have hsn : ns = nt := by rw [← HNS.out.1, ← HNS.out.2]; exact hsl
    subst hsn; have hgc := (HG3.out.off HWC.out.1 (by simp)).cell; have hgl := (HG3.out.off HWC.out.1 (by simp)).lt; clear hl hfo hbv hsl hok
    go_wp2_with fail
    go_loopw [46] (fun x wr => ∃ i : Nat, x = .int .i64 i ∧ i ≤ ns ∧ Hid (Off [] w3 wr ∧ KMat wr gm ((a.tree.zip a.stamps).take i))) (fun x _ => ns - (intOf x).toNat)
    case atStart => exact ⟨0, rfl, Nat.zero_le _, Lib.hid ⟨HWC.out.1, HWC.out.2⟩⟩
    case round =>
      clear HWC hgc hgl; obtain ⟨i, rfl, hi, HW⟩ := hrel
      by_cases hlt : i < ns
      · obtain ⟨x, hx⟩ : ∃ x, a.tree[i]? = some x := ⟨a.tree[i]'(by rw [HNS.out.1]; exact hlt), List.getElem?_eq_getElem _⟩
        obtain ⟨⟨s0, s1, s2⟩, hs⟩ : ∃ s, a.stamps[i]? = some s := ⟨a.stamps[i]'(by rw [HNS.out.2]; exact hlt), List.getElem?_eq_getElem _⟩
        obtain ⟨ax, rfl, hna, hab⟩ := (HROW.out.1.off HW.out.1).get i (by rw [HNS.out.1]; exact hlt); rw [(Option.some.inj ((List.getElem?_eq_getElem _).symm.trans hx) : a.tree[i]'(by rw [HNS.out.1]; exact hlt) = x)] at hna; obtain ⟨as_, rfl, hsa, hsb⟩ := (HROW.out.2.off HW.out.1).get i (by rw [HNS.out.2]; exact hlt)
        rw [(Option.some.inj ((List.getElem?_eq_getElem _).symm.trans hs) : a.stamps[i]'(by rw [HNS.out.2]; exact hlt) = (s0, s1, s2))] at hsa; have c0 := hna.path; have c1 := hna.kind; have c2 := hna.data; have c3 := hna.mode; have habk : (ax.add (i * 4)).block < wr.heap.size := by rw [add_block]; exact hab
        have HSA := Lib.hid (And.intro hsa hsb); have hxp : x.path.size ≤ 400 := okTree_small HOK.out (List.mem_of_getElem? hx)
        have HTK := Lib.hid (zip_take hx hs); have hltI : (i : Int) < (ns : Int) := by omega
        clear hna hab hsa hsb hx hs
        go_upto_region 9 with fail
        refine code_gen (fun W => Hid (Off [] w3 W ∧ KMat W gm ((a.tree.zip a.stamps).take i)) ∧ Blk W wr.heap.size 105 #[.string x.path, .int .i64 x.kind, .string x.data, .int .i64 x.mode] ∧ Off [] wr W) ⟨Lib.hid ⟨HW.out.1.alloc _, HW.out.2.off ((Off.refl [] wr).alloc _) (by simp)⟩, Blk.new _ _ _, (Off.refl _ _).alloc _⟩ ?_
        rintro W ⟨HW2, hbx, hof⟩; clear c0 c1 c2 c3 habk HW; have hsa := HSA.out.1.off hof (by rw [add_block]; exact HSA.out.2); have d0 := hsa.i0; have d1 := hsa.i1; have d2 := hsa.i2; have hsbk : (as_.add (i * 3)).block < W.heap.size := by rw [add_block]; exact Nat.lt_of_lt_of_le HSA.out.2 hof.size
        have hgc := (HG3.out.off HW2.out.1 (by simp)).cell; have hgl := (HG3.out.off HW2.out.1 (by simp)).lt; have hxc := hbx.cell; have hxl := hbx.lt; have hlen : ((a.tree.zip a.stamps).take i).length ≤ 1000000000 := by rw [List.length_take]; omega
        obtain ⟨W5, hrun, hk5, hg5⟩ := KMat.add (w := W.drew) (HW2.out.2.off (Off.refl [] W).drew (by simp)) hlen (x, s0, s1, s2) (by show x.path.size ≤ maxLen; unfold maxLen; omega); have HG5 := Lib.hid (And.intro hk5 hg5); unfold knV at hrun; dsimp only at hrun; clear hsa hof hlen hk5 hg5
        go_region
        go_wp2_with fail
        refine ⟨⟨i + 1, by congr 1, by omega, Lib.hid ⟨?_, ?_⟩⟩, by simp only [intOf]; omega⟩
        · exact ((HW2.out.1.trans_nil (Off.refl [] W).drew).trans ((Off.refl [gm] W.drew).grown HG5.out.2 (fun k hk => by cases hk; exact .inr (by simp))) (fun x hx hm => by
            rw [List.mem_singleton] at hm; have := HGM.out; omega))
        rw [HTK.out]; exact HG5.out.1
      have hin : i = ns := by omega
      rw [hin] at HW; have HW2 := Lib.hid (show Off [] w3 wr ∧ KMat wr gm l from ⟨HW.out.1, by
        have h9 := HW.out.2; rw [List.take_of_length_le (by rw [List.length_zip, HNS.out.1, HNS.out.2, Nat.min_self]; exact Nat.le_refl _), ← HL0.out] at h9; exact h9⟩)
      clear HW hin
      go_wp2_with fail
      go_meet
      exact HW2
  clear hl HWC; have HW6 := Lib.hid hcut.out; clear hcut; obtain ⟨hrowT, hpnT⟩ : Row w3 pt T ∧ (pt = none → T = []) := by
    have h9 := HT3.out; rw [← HN.out] at h9; obtain ⟨p9, c9, e, r, -, pn, -⟩ := own_row h9; injection e with e1 _ _
    subst e1; exact ⟨r, fun h => (pn h).1⟩
  have HAB := Lib.hid (abare_any pt T N ctt wc (hrowT.off HW6.out.1) HN.out hct (by omega) hpnT HTF.out (HR3.out.tabs.off HW6.out.1)); clear hrowT hpnT HROW
  go_upto_region 12 with fail
  refine HAB.out.mono ?_
  rintro e wb ⟨vb, rfl, hvb, hob⟩; clear HAB; obtain ⟨X, hX⟩ : ∃ X, hashT hashB T = X := ⟨_, rfl⟩
  have HXE := Lib.hid hX; have hXl : X.length ≤ N := by rw [← hX, ← HN.out]; exact hashT_len _ _
  rw [hX] at hvb; obtain ⟨nx, hnx⟩ : ∃ nx, X.length = nx := ⟨_, rfl⟩
  rw [hnx] at hvb hXl; have HNX := Lib.hid hnx; obtain ⟨pb, cb, rfl, -, -, -⟩ := own_atG hvb; have HZL := Lib.hid (show (fastT l X S).length = X.length from fastT_len l X S (by rw [HNX.out, HTS.out]; exact hXl)); have HXP := Lib.hid (show ∀ x ∈ X, x.path.size ≤ 400 from fun x hx => by
    rw [← HXE.out] at hx; unfold hashT at hx
    split at hx
    · obtain ⟨y, hy, rfl⟩ := List.mem_map.1 hx
      rw [hashN_path]; exact HTP.out y hy
    cases hx)
  have HV0 := Lib.hid (And.intro hob (show wb.ownsRow wc.heap.size 105 4 (.slice pb nx cb) nx (cellsOf (mix2 (fastT l X S) X 0)) by rw [mix2_zero]; exact hvb)); clear hX hnx hvb hob
  go_wp2_with fail
  go_loopw [69] (fun x wr => ∃ i : Nat, x = .int .i64 i ∧ i ≤ nx ∧ Hid (Off [] wc wr ∧ wr.ownsRow wc.heap.size 105 4 (.slice pb nx cb) nx (cellsOf (mix2 (fastT l X S) X i)))) (fun x _ => nx - (intOf x).toNat)
  case atStart => exact ⟨0, rfl, Nat.zero_le _, HV0⟩
  case round =>
    clear HV0; obtain ⟨i, rfl, hi, HW⟩ := hrel
    by_cases hlt : i < nx
    · obtain ⟨x, hx⟩ : ∃ x, X[i]? = some x := ⟨X[i]'(by rw [HNX.out]; exact hlt), List.getElem?_eq_getElem _⟩
      obtain ⟨⟨s0, s1, s2⟩, hs⟩ : ∃ s, S[i]? = some s := ⟨S[i]'(by rw [HTS.out]; omega), List.getElem?_eq_getElem _⟩
      have hm := mix2_get (f := fastT l X S) HZL.out hx; obtain ⟨p9, c9, e0, -, -, k0⟩ := own_atG HW.out.2; injection e0 with e1 e2 e3
      subst e1 e3; obtain ⟨g, rfl, hgb, hgl, -, k0⟩ := k0 (by omega); have c0 : wr.cell? ⟨g, i * 4, none⟩ = some (.string x.path) := k0 (i * 4) _ (nd_cells hm 0 _ rfl)
      have c1 : wr.cell? ⟨g, i * 4 + 1, none⟩ = some (.int .i64 x.kind) := k0 (i * 4 + 1) _ (nd_cells hm 1 _ rfl)
      have c2 : wr.cell? ⟨g, i * 4 + 2, none⟩ = some (.string x.data) := k0 (i * 4 + 2) _ (nd_cells hm 2 _ rfl)
      have c3 : wr.cell? ⟨g, i * 4 + 3, none⟩ = some (.int .i64 x.mode) := k0 (i * 4 + 3) _ (nd_cells hm 3 _ rfl)
      obtain ⟨q9, b9, f0, -, -, j0⟩ := own_atG HS3.out; injection f0 with f1 f2 f3
      subst f1 f3; obtain ⟨gs, rfl, -, hgsl, -, j0⟩ := j0 (by omega); have hsc : ∀ j u, [Value.int .i64 s0, .int .i64 s1, .int .i64 s2][j]? = some u → w3.cell? ⟨gs, i * 3 + j, none⟩ = some u := fun j u hu =>
        j0 (i * 3 + j) u (flat_getG (fun s : Int × Int × Int => [Value.int .i64 s.1, .int .i64 s.2.1, .int .i64 s.2.2]) 3 (fun _ => rfl) S i j (s0, s1, s2) hs (by have := (List.getElem?_eq_some_iff.1 hu).1; simpa using this) ▸ hu)
      have HSC := Lib.hid (And.intro hsc hgsl); have HX := Lib.hid hx; have HM := Lib.hid hm; have HFA := Lib.hid (fastT_at (l := l) hx hs); have hxp := HXP.out x (List.mem_of_getElem? hx); have hltI : (i : Int) < (nx : Int) := by omega
      have hltN : (i : Int) < (N : Int) := by omega
      clear hx hs hm k0 j0 hsc hgsl
      go_upto_region 15 with fail
      refine code_gen (fun W => Hid (Off [] wc W ∧ W.ownsRow wc.heap.size 105 4 (.slice (some ⟨g, 0, none⟩) nx cb) nx (cellsOf (mix2 (fastT l X S) X i))) ∧ Blk W wr.heap.size 105 #[.string x.path, .int .i64 x.kind, .string x.data, .int .i64 x.mode]) ⟨Lib.hid ⟨HW.out.1.alloc _, HW.out.2.alloc _⟩, Blk.new _ _ _⟩ ?_
      rintro W ⟨HW7, hbx⟩; clear c0 c1 c2 c3 HW hgl; have hxc := hbx.cell; have hxl := hbx.lt; obtain ⟨g22, hg22⟩ : ∃ g22, wr.heap.size = g22 := ⟨_, rfl⟩
      rw [hg22] at hbx hxc hxl; rw [hg22]; have HBX := Lib.hid hbx; obtain ⟨⟨⟨yp, yk, yd, ym⟩, y0, y1, y2⟩, hrun, hy⟩ := KMat.look (HW6.out.2.off HW7.out.1 (by simp)) x.path (by unfold maxLen; omega); unfold knV at hrun; dsimp only at hrun; have HY := Lib.hid hy; clear hbx hg22 hy; obtain ⟨ok, hok⟩ : ∃ ok, (knAt l x.path).isSome = ok := ⟨_, rfl⟩
      rw [hok] at hrun; have HOK := Lib.hid hok; clear hok
      go_upto_region 16 with fail
      refine code_gen (fun W2 => Hid (Off [] wc W2 ∧ W2.ownsRow wc.heap.size 105 4 (.slice (some ⟨g, 0, none⟩) nx cb) nx (cellsOf (mix2 (fastT l X S) X i))) ∧ Blk W2 g22 105 #[.string x.path, .int .i64 x.kind, .string x.data, .int .i64 x.mode] ∧ Blk W2 W.heap.size 150 #[.string yp, .int .i64 yk, .string yd, .int .i64 ym, .int .i64 y0, .int .i64 y1, .int .i64 y2])
        ⟨Lib.hid ⟨HW7.out.1.alloc _, HW7.out.2.alloc _⟩, HBX.out.alloc _, Blk.new _ _ _⟩ ?_
      rintro W2 ⟨HW8, hb22, hb23⟩; have hxc := hb22.cell; have hxl := hb22.lt; have hyc := hb23.cell; have hyl := hb23.lt; clear hrun HW7 HBX; have hoS := HW6.out.1.trans_nil HW8.out.1; have d0 : W2.cell? ⟨gs, i * 3, none⟩ = some (.int .i64 s0) := (hoS.cell (p := ⟨gs, i * 3, none⟩) HSC.out.2 (by simp)).trans (HSC.out.1 0 _ rfl)
      have d1 : W2.cell? ⟨gs, i * 3 + 1, none⟩ = some (.int .i64 s1) := (hoS.cell (p := ⟨gs, i * 3 + 1, none⟩) HSC.out.2 (by simp)).trans (HSC.out.1 1 _ rfl)
      have d2 : W2.cell? ⟨gs, i * 3 + 2, none⟩ = some (.int .i64 s2) := (hoS.cell (p := ⟨gs, i * 3 + 2, none⟩) HSC.out.2 (by simp)).trans (HSC.out.1 2 _ rfl)
      have hgsl : gs < W2.heap.size := Nat.lt_of_lt_of_le HSC.out.2 hoS.size
      clear hoS
      cases ok
      · have HNO := Lib.hid (show knAt l x.path = none from Option.isSome_eq_false_iff.1 HOK.out |> Option.isNone_iff_eq_none.1)
        go_region
        go_wp2_with fail
        refine ⟨⟨i + 1, by congr 1, by omega, Lib.hid ⟨HW8.out.1.trans_nil (Off.refl [] _).drew, ?_⟩⟩, by simp only [intOf]; omega⟩
        have hz : (fastT l X S)[i]? = some x := by
          rw [HFA.out]
          congr 1
          unfold useN; rw [HNO.out]
        rw [← mix2_same HZL.out HX.out hz]; exact own_offk (k := []) HW8.out.2 (Off.refl [] _).drew (by simp)
      have HSO := Lib.hid (show knAt l x.path = some (⟨yp, yk, yd, ym⟩, y0, y1, y2) from by
        obtain ⟨k, hk⟩ := Option.isSome_iff_exists.1 HOK.out; rw [hk, HY.out k hk])
      by_cases h1 : yk = x.kind
      case neg =>
        have q1 : (yk == x.kind) = false := beq_eq_false_iff_ne.2 h1
        have H1 := Lib.hid h1; clear h1
        go_region
        go_wp2_with fail
        refine ⟨⟨i + 1, by congr 1, by omega, Lib.hid ⟨HW8.out.1.trans_nil (Off.refl [] _).drew, ?_⟩⟩, by simp only [intOf]; omega⟩
        have hz : (fastT l X S)[i]? = some x := by
          rw [HFA.out]
          congr 1
          unfold useN; rw [HSO.out]; exact if_neg (fun h => H1.out h.1)
        rw [← mix2_same HZL.out HX.out hz]; exact own_offk (k := []) HW8.out.2 (Off.refl [] _).drew (by simp)
      by_cases h2 : ym = x.mode
      case neg =>
        have q1 : (yk == x.kind) = true := beq_iff_eq.2 h1
        have q2 : (ym == x.mode) = false := beq_eq_false_iff_ne.2 h2
        have H2 := Lib.hid h2; clear h1 h2
        go_region
        go_wp2_with fail
        refine ⟨⟨i + 1, by congr 1, by omega, Lib.hid ⟨HW8.out.1.trans_nil (Off.refl [] _).drew, ?_⟩⟩, by simp only [intOf]; omega⟩
        have hz : (fastT l X S)[i]? = some x := by
          rw [HFA.out]
          congr 1
          unfold useN; rw [HSO.out]; exact if_neg (fun h => H2.out h.2.1)
        rw [← mix2_same HZL.out HX.out hz]; exact own_offk (k := []) HW8.out.2 (Off.refl [] _).drew (by simp)
      by_cases h3 : y0 = s0 ∧ y1 = s1 ∧ y2 = s2
      case neg =>
        have q1 : (yk == x.kind) = true := beq_iff_eq.2 h1
        have q2 : (ym == x.mode) = true := beq_iff_eq.2 h2
        have hes := eqStampP y0 y1 y2 s0 s1 s2; rw [decide_eq_false h3] at hes; have H3 := Lib.hid h3; clear h1 h2 h3
        go_region
        go_wp2_with fail
        refine ⟨⟨i + 1, by congr 1, by omega, Lib.hid ⟨HW8.out.1.trans_nil (Off.refl [] _).drew, ?_⟩⟩, by simp only [intOf]; omega⟩
        have hz : (fastT l X S)[i]? = some x := by
          rw [HFA.out]
          congr 1
          unfold useN; rw [HSO.out]; exact if_neg (fun h => H3.out (by have := h.2.2; simp only [Prod.mk.injEq] at this; exact this))
        rw [← mix2_same HZL.out HX.out hz]; exact own_offk (k := []) HW8.out.2 (Off.refl [] _).drew (by simp)
      have q1 : (yk == x.kind) = true := beq_iff_eq.2 h1
      have q2 : (ym == x.mode) = true := beq_iff_eq.2 h2
      have hes := eqStampP y0 y1 y2 s0 s1 s2; rw [decide_eq_true h3] at hes; have HUS := Lib.hid (show (fastT l X S)[i]? = some { x with data := yd } by
        rw [HFA.out]
        congr 1
        unfold useN; rw [HSO.out]; exact if_pos ⟨h1, h2, by obtain ⟨e1, e2, e3⟩ := h3; rw [e1, e2, e3]⟩)
      clear h1 h2 h3
      go_region
      have HW9 := Lib.hid (And.intro (HW8.out.1.trans_nil (Off.refl [] W2).drew) (own_offk (k := []) HW8.out.2 (Off.refl [] W2).drew (by simp))); have hfz : W2.drew.frozen? ⟨g, i * 4 + 2, none⟩ = false := own_frozen2 HW9.out.2 (i * 4 + 2)
      obtain ⟨p9, c9, e0, -, -, k0⟩ := own_atG HW9.out.2; injection e0 with e1 e2 e3
      subst e1 e3; obtain ⟨g9, e4, -, hgl5, -, k0⟩ := k0 (by omega); injection e4 with e4
      injection e4 with e4
      subst e4; have c5 : W2.drew.cell? ⟨g, i * 4 + 2, none⟩ = some (.string x.data) := k0 (i * 4 + 2) _ (nd_cells HM.out 2 _ rfl)
      clear k0
      go_wp2_with fail
      refine ⟨⟨i + 1, by congr 1, by omega, Lib.hid ⟨HW9.out.1.setCell (.inl hgb) _, ?_⟩⟩, by simp only [intOf]; omega⟩
      rw [← mix2_set HZL.out HX.out HUS.out, ← cellsOf_setD _ _ _ _ HM.out]; exact own_set2 HW9.out.2 (i * 4 + 2) (.string yd)
    have hin : i = nx := by omega
    rw [hin] at HW; have hz := HW.out.2; rw [show mix2 (fastT l X S) X nx = fastT l X S by rw [← HNX.out]; exact mix2_all HZL.out] at hz; have HZ := Lib.hid hz; have HOF := Lib.hid (HW6.out.1.trans_nil HW.out.1); have HFIN := Lib.hid (show fastT l X S = printsV hashB a fast T S by unfold printsV; rw [HL.out, HXE.out]); clear hz HW hin
    go_wp2_with fail
    refine bodyPost_ret (v := .tuple #[.slice pb nx cb, .slice ps N cts, bv, .int .i64 0]) (by simp [results, Tryz.f23, go_sem]) rfl ?_
    have hml : ∀ b ∈ (Value.slice pb nx cb).ownBlock.toList, w3.heap.size ≤ b ∧ b < wr.heap.size := fun b hb => by
      have h1 := own_made_ HZ.out b hb; have h2 := HW6.out.1.size; omega
    refine ⟨_, _, _, n3, E3, rfl, ⟨?_, ?_, own_offk (k := []) HB3.out HOF.out (by simp)⟩, ((HR3.out.more (k' := (Value.slice pb nx cb).ownBlock.toList) HOF.out hml).drop ?_), HQ3.out.1, HQ3.out.2, HK3.out.trans (Kept.of_off HOF.out (fun b hb => by obtain ⟨G, -, -, -, -, h5⟩ := HR3.out; exact (h5 b (by simp [hb])).1))⟩
    · rw [← HFIN.out, HZL.out, HNX.out]
      exact own_base HZ.out (Nat.zero_le _)
    · rw [HTS.out]
      exact own_offk (k := []) HS3.out HOF.out (by simp)
    intro b hb
    unfold blk3 at hb ⊢; simp only [List.mem_append] at hb ⊢
    rcases hb with (hb | hb | hb) | hb
    · exact .inl hb
    · exact .inr (.inl (.inr (.inl hb)))
    · exact .inr (.inl (.inr (.inr hb)))
    exact .inr (.inr (.inr hb))
end
section
open Go.RowKit Go.Op Go.Maps
structure ChI (D0 D : PDisk) (C n : Nat) : Prop where
  fine : Fine D n
  ed : EdC C D
  age : AgeOk D
  nx : Nx D0 D
  slim : Slim D
theorem ChI.mono {D0 D : PDisk} {C n m : Nat} (h : ChI D0 D C n) (hm : n ≤ m) : ChI D0 D C m := ⟨h.fine.mono hm, h.ed, h.age, h.nx, h.slim⟩
theorem ChI.ask {D0 D : PDisk} {C n m : Nat} (h : ChI D0 D C n) (c : CallP) (hz1 : c.data.size ≤ maxLen) (hz2 : c.to_.size ≤ maxLen) (hk : Ok (askE D c).2 m) : ChI D0 (askE D c).2 C m :=
  ⟨fineC_ask h.fine h.ed c hz1 hz2 hk, edC_ask h.ed c, (age_ask h.age c).2, h.nx.trans (age_ask h.age c).1, slim_askE h.slim c⟩
section
variable {w0 w w' : World} {p n C : Nat} {D0 D : PDisk} {k : List Nat}
def OpTo (w0 w : World) (p n C : Nat) (D : PDisk) (k : List Nat) (c : CallP) (e : Ending) (w' : World) : Prop :=
  (∃ v, e = .returned v) ∧ RunE w0 w' p (askE D c).2 (n + C + 2) k ∧ Kept k w w'
theorem runC_write (h : RunE w0 w p D n k) (hI : ChI D0 D C n) (hn : n + C ≤ 40000000) (path data : ByteArray) (mode : Int) (hs : path.size ≤ 9223372036854775807) :
    Calls Tryz.prog 29 #[.pointer (some ⟨p, 0, none⟩), .string path, .string data, .int .i64 mode] w (OpTo w0 w p n C D k ⟨0, path, ⟨#[]⟩, data, mode⟩) :=
  ((h.le (show n ≤ n + C by omega)).call (R := fun e _ => e = _) fun G hG => dwrite_callE p (n + C) G D path data mode w hG (hI.ed.eok hI.fine) (by omega) hs).mono fun e w' ⟨he, hr, hk⟩ => ⟨⟨_, he⟩, hr, hk⟩
theorem runC_remove (h : RunE w0 w p D n k) (hI : ChI D0 D C n) (hn : n + C ≤ 40000000) (path : ByteArray) (hs : path.size ≤ 9223372036854775807) :
    Calls Tryz.prog 30 #[.pointer (some ⟨p, 0, none⟩), .string path] w (OpTo w0 w p n C D k ⟨3, path, ⟨#[]⟩, ⟨#[]⟩, 0⟩) :=
  ((h.le (show n ≤ n + C by omega)).call (R := fun e _ => e = _) fun G hG => dremove_callE p (n + C) G D path w hG (hI.ed.eok hI.fine) (by omega) hs).mono fun e w' ⟨he, hr, hk⟩ => ⟨⟨_, he⟩, hr, hk⟩
theorem runC_move (h : RunE w0 w p D n k) (hI : ChI D0 D C n) (hn : n + C ≤ 40000000) (path q : ByteArray) (hs : path.size ≤ 9223372036854775807) (hs2 : q.size ≤ 9223372036854775807) :
    Calls Tryz.prog 31 #[.pointer (some ⟨p, 0, none⟩), .string path, .string q] w (OpTo w0 w p n C D k ⟨4, path, q, ⟨#[]⟩, 0⟩) :=
  ((h.le (show n ≤ n + C by omega)).call (R := fun e _ => e = _) fun G hG => dmove_callE p (n + C) G D path q w hG (hI.ed.eok hI.fine) (by omega) hs hs2 ((hI.ed.edited hI.fine).good.free (hI.ed.edited hI.fine).ok path q)).mono fun e w' ⟨he, hr, hk⟩ => ⟨⟨_, he⟩, hr, hk⟩
theorem runC_replace (h : RunE w0 w p D n k) (hI : ChI D0 D C n) (hn : n + C ≤ 40000000) (path q : ByteArray) (hs : path.size ≤ 9223372036854775807) (hs2 : q.size ≤ 9223372036854775807) :
    Calls Tryz.prog 32 #[.pointer (some ⟨p, 0, none⟩), .string path, .string q] w (OpTo w0 w p n C D k ⟨5, path, q, ⟨#[]⟩, 0⟩) :=
  ((h.le (show n ≤ n + C by omega)).call (R := fun e _ => e = _) fun G hG => dreplace_callE p (n + C) G D path q w hG (hI.ed.eok hI.fine) (by omega) hs hs2).mono fun e w' ⟨he, hr, hk⟩ => ⟨⟨_, he⟩, hr, hk⟩
theorem runC_sync (h : RunE w0 w p D n k) (hI : ChI D0 D C n) (hn : n + C ≤ 40000000) (path : ByteArray) (hs : path.size ≤ 9223372036854775807) :
    Calls Tryz.prog 33 #[.pointer (some ⟨p, 0, none⟩), .string path] w (OpTo w0 w p n C D k ⟨6, path, ⟨#[]⟩, ⟨#[]⟩, 0⟩) :=
  ((h.le (show n ≤ n + C by omega)).call (R := fun e _ => e = _) fun G hG => dsync_callE p (n + C) G D path w hG (hI.ed.eok hI.fine) (by omega) hs).mono fun e w' ⟨he, hr, hk⟩ => ⟨⟨_, he⟩, hr, hk⟩
theorem runC_flush (h : RunE w0 w p D n k) (hI : ChI D0 D C n) (hn : n + C ≤ 40000000) :
    Calls Tryz.prog 34 #[.pointer (some ⟨p, 0, none⟩)] w (OpTo w0 w p n C D k ⟨7, ⟨#[]⟩, ⟨#[]⟩, ⟨#[]⟩, 0⟩) :=
  ((h.le (show n ≤ n + C by omega)).call (R := fun e _ => e = _) fun G hG => flush_callE p (n + C) G D w hG (hI.ed.eok hI.fine) (by omega)).mono fun e w' ⟨he, hr, hk⟩ => ⟨⟨_, he⟩, hr.le (by omega), hk⟩
end
structure ChgP where
  what : Int
  path : ByteArray
  to_ : ByteArray
  data : ByteArray
structure ChgAt (w : World) (a : Addr) (c : ChgP) : Prop where
  what : w.cell? a = some (.int .i64 c.what)
  path : w.cell? ⟨a.block, a.off + 1, none⟩ = some (.string c.path)
  to_ : w.cell? ⟨a.block, a.off + 2, none⟩ = some (.string c.to_)
  data : w.cell? ⟨a.block, a.off + 3, none⟩ = some (.string c.data)
def ChgRow (w : World) (p : Option Addr) (cs : List ChgP) : Prop :=
  cs ≠ [] → ∃ a, p = some a ∧ a.block < w.heap.size ∧ ∀ (i : Nat) (c : ChgP), cs[i]? = some c → ChgAt w (a.add (i * 4)) c
theorem ChgAt.off {w w' : World} {a : Addr} {c : ChgP} (h : ChgAt w a c) (ho : Off [] w w') (hb : a.block < w.heap.size) : ChgAt w' a c :=
  ⟨(ho.cell hb (by simp)).trans h.what, (ho.cell (p := ⟨a.block, a.off + 1, none⟩) hb (by simp)).trans h.path, (ho.cell (p := ⟨a.block, a.off + 2, none⟩) hb (by simp)).trans h.to_, (ho.cell (p := ⟨a.block, a.off + 3, none⟩) hb (by simp)).trans h.data⟩
theorem ChgRow.off {w w' : World} {p : Option Addr} {cs : List ChgP} (h : ChgRow w p cs) (ho : Off [] w w') : ChgRow w' p cs := fun hne => by
  obtain ⟨a, rfl, hb, hn⟩ := h hne; exact ⟨a, rfl, Nat.lt_of_lt_of_le hb ho.size, fun i n hi => (hn i n hi).off ho (by rw [add_block]; exact hb)⟩
theorem ChgRow.get {w : World} {p : Option Addr} {cs : List ChgP} (h : ChgRow w p cs) (i : Nat) (hi : i < cs.length) : ∃ a, p = some a ∧ ChgAt w (a.add (i * 4)) cs[i] ∧ a.block < w.heap.size := by
  obtain ⟨a, rfl, hb, hn⟩ := h (by intro e; subst e; simp at hi); exact ⟨a, rfl, hn i _ (List.getElem?_eq_getElem hi), hb⟩
end
section
open Go.RowKit Go.Op Go.Maps
theorem newD_stamp {t : List Node} (hok : okTree t = true) (hF : Fits t) {x : Node} (hx : x ∈ t) : ∃ i : Nat, i ≤ t.length ∧ stampD (newD t) x = ((i : Int), (x.data.size : Int), 0) := by
  obtain ⟨i, m, h1, h2, h3⟩ := node_ino (newD_fine hok hF) (show x ∈ (newD t).tree by rw [newD_tree hok]; exact hx); unfold PDisk.inode at h1
  split at h1
  · cases h1
  have hl := (List.getElem?_eq_some_iff.1 h1).1; have hm := List.mem_of_getElem? h1; have hlen : (newD t).inos.length = t.length := by show (t.map fun n => (⟨n, 0, false⟩ : Ino)).length = _; rw [List.length_map]
  obtain ⟨n, -, rfl⟩ := List.mem_map.1 (show m ∈ t.map fun n => (⟨n, 0, false⟩ : Ino) from hm); refine ⟨i, by omega, ?_⟩; rw [h3]
  congr 2
  rw [h2]
theorem own_addr {w : World} {base e sz n c : Nat} {p : Option Addr} {xs : List Value} (h : w.ownsRow base e sz (.slice p n c) n xs) : ∀ a, p = some a → a.block ∈ (Value.slice p n c).ownBlock.toList := by
  intro a ha
  subst ha
  rcases h.2 with ⟨h0, _⟩ | ⟨g, cap, cur, hv, _⟩
  · cases h0
  injection hv with h1 h2 h3
  injection h1 with h1
  subst h1; simp [Value.ownBlock]
theorem arcK_new {w : World} {t T : List Node} {pv sv bv : Value} {B : List ByteArray} (hok : okTree t = true) (hF : Fits t) (hT : ∀ x ∈ T, x ∈ t) (hl : T.length ≤ 1000) (htl : t.length ≤ 1048576) (h : ThreeR w pv sv bv (hashT hashB T) (T.map (stampD (newD t))) B) :
    ∃ tp c sp d, pv = .slice tp (hashT hashB T).length c ∧ sv = .slice sp (T.map (stampD (newD t))).length d ∧ ArcK (blk3 pv sv bv) w (.agg #[.string ⟨#[112]⟩, .int .i64 0, .slice tp (hashT hashB T).length c, .slice sp (T.map (stampD (newD t))).length d]) ⟨⟨#[112]⟩, 0, hashT hashB T, T.map (stampD (newD t))⟩ := by
  obtain ⟨h1, h2, -⟩ := h; obtain ⟨tp, c, rfl, r1, r2, r3, -⟩ := own_row h1; obtain ⟨sp, d, rfl, s1, s2, s3, s4, s5⟩ := srow_own h2; have hcm : c ≤ maxLen := by
    obtain ⟨p9, c9, e, -, e9, -⟩ := own_atG h1; injection e with _ _ e
    subst e; exact e9
  have hfit : ∀ x ∈ hashT hashB T, x.path.size ≤ maxLen ∧ x.data.size ≤ maxLen := by
    intro x hx
    unfold hashT at hx
    split at hx
    · obtain ⟨y, hy, rfl⟩ := List.mem_map.1 hx
      rw [hashN_path]; refine ⟨(hF y (hT y hy)).1, ?_⟩; unfold hashN
      split
      · exact (hF y (hT y hy)).2
      show (hashB y.data).size ≤ maxLen
      unfold hashB; rw [bs_size, hexV_len, str_size, sumV_size]
      decide
    cases hx
  have hlen : (hashT hashB T).length ≤ 10000000000000 := by have := hashT_len hashB T; omega
  refine ⟨tp, c, sp, d, rfl, rfl, ⟨⟨⟨tp, c, sp, d, rfl, r1, s1, r2, hcm, s2, s3, r3⟩, hfit, ⟨hlen, ?_⟩, (by show (1 : Nat) ≤ maxLen; decide), ⟨(by show (-9223372036854775808 : Int) ≤ 0; decide), (by show (0 : Int) ≤ 9223372036854775807; decide)⟩, ?_⟩, tp, c, sp, d, rfl, ?_, ?_⟩⟩
  · show (T.map (stampD (newD t))).length ≤ _
    rw [List.length_map]; omega
  · intro s hs
    obtain ⟨x, hx, rfl⟩ := List.mem_map.1 hs; obtain ⟨i, hi, he⟩ := newD_stamp hok hF (hT x hx); have hz := (hF x (hT x hx)).2; unfold maxLen at hz; rw [he]; dsimp only; omega
  · intro x _ e
    exact List.mem_append_left _ (own_addr h1 x e)
  intro x _ e
  exact List.mem_append_right _ (List.mem_append_left _ (s5 x e).1)
theorem same_ownF {w : World} {b1 b2 : Nat} {v1 v2 : Value} {L : List Node} (h1 : w.ownsRow b1 105 4 v1 L.length (cellsOf L)) (h2 : w.ownsRow b2 105 4 v2 L.length (cellsOf L)) (hl : L.length ≤ 100000) :
    Calls Tryz.prog 21 #[v1, v2] w fun e w' => e = .returned (.bool true) ∧ Off [] w w' := by
  obtain ⟨p, c, rfl, hp, -⟩ := own_row h1; obtain ⟨q, d, rfl, hq, -⟩ := own_row h2; have := rsame_any L L p q c d w (by omega) (by omega) hp hq; rw [decide_eq_true rfl] at this; exact this
theorem sameS_own {w : World} {b1 b2 : Nat} {v1 v2 : Value} {L : List (Int × Int × Int)} (h1 : w.ownsRow b1 117 3 v1 L.length (stCells L)) (h2 : w.ownsRow b2 117 3 v2 L.length (stCells L)) (hl : L.length ≤ 100000) :
    Calls Tryz.prog 22 #[v1, v2] w fun e w' => e = .returned (.bool true) ∧ Off [] w w' := by
  obtain ⟨p, c, rfl, hp, -⟩ := srow_own h1; obtain ⟨q, d, rfl, hq, -⟩ := srow_own h2; have := rsamest_any L L p q c d w (by omega) (by omega) hp hq; rw [decide_eq_true rfl] at this; exact this
set_option maxRecDepth 100000 in
set_option maxHeartbeats 16000000 in
theorem sfast_any (fp : Option Addr) (t : List Node) (n c : Nat) (cp : Option Addr) (cs : List ChgP) (m dcap : Nat) (ap ep : Option Addr) (fs : List FateP) (es : List EditP) (nf fc ne ec : Nat) (w : World) (hR : Row w fp t) (hn : t.length = n) (hc : n ≤ c) (hcm : c ≤ maxLen) (hF : Fits1 t) (hnb : n ≤ 1048576)
    (hC : ChgRow w cp cs) (hm : cs.length = m) (hmb : m ≤ 1048576) (hZ : ∀ x ∈ cs, x.path.size ≤ 1048576 ∧ x.to_.size ≤ 1048576 ∧ x.data.size ≤ maxLen)
    (hFR : FRow w ap fs) (hnf : fs.length = nf) (hnfb : nf ≤ 4398046511103) (hpa : ap = none → fs = []) (hER : ERow w ep es) (hne : es.length = ne) (hneb : ne ≤ 1000000) (hvl : ∀ e ∈ es, e.value.length ≤ 2932031007402 ∧ Fits e.value) (hco : costE es ≤ 262144) (hT : Tabs w) :
    Calls Tryz.prog 4 #[.slice fp n c, .slice cp m dcap, .agg #[.slice ap nf fc, .slice ep ne ec]] w fun e w' => e = .returned (.bool true) ∧ Off [] w w' := by
  have HT := Lib.hid hT; have HR0 := Lib.hid hR; have HN := Lib.hid hn; have HFT := Lib.hid hF; have HC0 := Lib.hid hC; have HM := Lib.hid hm; have HZ := Lib.hid hZ; have HWE := Lib.hid (And.intro hFR (And.intro hnf (And.intro hpa (And.intro hER (And.intro hne hvl))))); have HCO := Lib.hid hco; have HAW := Lib.hid (fun (W : World) (ho : Off [] w W) => awake11_any W (hT.off ho))
  have HSH := Lib.hid (fun (W : World) (ho : Off [] w W) (v : Bool) (hv : shortV t [] = v) => short_v fp none t [] n c 0 0 W (hR.off ho) hn hnb hF (rlb_nil _ _) rfl (by decide) (fun x hx => by cases hx) v hv); unfold maxLen at hcm; clear hT hR hn hF hC hm hZ hFR hnf hpa hER hne hvl hco
  go_enter Tryz.func4, Tryz.ntmps4
  go_upto_region 1 with fail
  refine code_gen (fun W => Blk W w.heap.size 26 #[.slice ap nf fc, .slice ep ne ec] ∧ Off [] w W) ⟨Blk.new w _ _, (Off.refl _ _).alloc _⟩ ?_
  rintro W ⟨hbf, hof⟩; have HBF := Lib.hid hbf; have HOF := Lib.hid hof; obtain ⟨gw, hgw⟩ : ∃ gw, w.heap.size = gw := ⟨_, rfl⟩
  rw [hgw] at HBF; rw [hgw]; clear hbf hof hgw
  go_wp2_with fail
  refine (HAW.out W HOF.out).mono ?_
  rintro e w1 ⟨rfl, ho1⟩; have HB1 := Lib.hid (HBF.out.off ho1 (by simp)); have HO1 := Lib.hid (HOF.out.trans_nil ho1); clear ho1 HAW HBF HOF
  cases hs : shortV t []
  · have HSC := Lib.hid (HSH.out w1 HO1.out false hs)
    clear hs
    go_wp2_with fail
    refine HSC.out.mono ?_
    rintro e w2 ⟨rfl, ho2⟩
    go_wp2_with fail
    go_ret
    exact ⟨rfl, HO1.out.trans_nil ho2⟩
  have HSC := Lib.hid (HSH.out w1 HO1.out true hs); have hn40 : n ≤ 40 := by
    unfold shortV at hs; simp only [Bool.and_eq_true, decide_eq_true_eq] at hs; rw [← HN.out]; exact hs.2.1.2
  clear hs HSH
  go_wp2_with fail
  refine HSC.out.mono ?_
  rintro e w2 ⟨rfl, ho2⟩; have HB2 := Lib.hid (HB1.out.off ho2 (by simp)); have HO2 := Lib.hid (HO1.out.trans_nil ho2); have HT2 := Lib.hid (HT.out.off HO2.out); clear ho2 HSC HB1 HO1
  by_cases hok : okTree t = true
  case neg =>
    have hok : okTree t = false := by simpa using hok
    have HNB := Lib.hid (dnew_bad fp t n c w2 (HR0.out.off HO2.out) HN.out hc (by unfold maxLen; omega) hok HFT.out.fits HT2.out); clear hok
    go_wp2_with fail
    refine HNB.out.mono ?_
    rintro e w3 ⟨rfl, ho3⟩
    go_wp2_with fail
    go_ret
    exact ⟨rfl, HO2.out.trans_nil ho3⟩
  have HOK := Lib.hid hok; have HNEW := Lib.hid (run_new fp t n c w2 w2 (Off.refl _ _) HT2.out (HR0.out.off HO2.out) HN.out hc hok HFT.out.fits); clear hok
  go_wp2_with fail
  refine HNEW.out.mono ?_
  rintro e w3 ⟨gd, rfl, hr⟩; have HR3 := Lib.hid hr.e; have HO3 := Lib.hid (HO2.out.trans_nil hr.since); have HFN := Lib.hid (newD_fine HOK.out HFT.out.fits); obtain ⟨T0, hT0⟩ : ∃ T0, foundIn (seeV []) t [] = T0 := ⟨_, rfl⟩
  have HT0 := Lib.hid (show (∀ x ∈ T0, x ∈ t) ∧ T0.length ≤ 1000 from by
    rw [← hT0]; refine ⟨fun x hx => (List.mem_filter.1 (List.mem_filter.1 hx).1).1, ?_⟩; have h2 : (foundIn (seeV []) t []).length ≤ t.length := by
      unfold foundIn subN; exact Nat.le_trans (List.length_filter_le _ _) (List.length_filter_le _ _)
    have := HN.out; omega)
  have HP1 := Lib.hid (show Calls Tryz.prog 23 #[.pointer (some ⟨gd, 0, none⟩), .slice none 0 0, .agg #[.string ⟨#[]⟩, .int .i64 0, .slice none 0 0, .slice none 0 0], .bool false] w3 _ from by
    have := prints_quiet (C := 40) (m := 890000) (.agg #[.string ⟨#[]⟩, .int .i64 0, .slice none 0 0, .slice none 0 0]) arc0 false HFN.out (by rw [newD_tree HOK.out]; exact HOK.out) (SameQ.refl (newD_calm _) rfl) HR3.out (rlk_nil [] w3) (arcK_zero [] w3) HT2.out ⟨HFN.out, EdC.of ⟨by show costE [] ≤ 40; decide, fun e he => by cases he⟩ (.inl rfl), by rw [newD_tree HOK.out, HN.out]; omega, by rw [newD_tree HOK.out, HN.out]; omega⟩
    rw [newD_tree HOK.out, hT0] at this; exact this)
  clear hr HNEW HR3 hT0
  go_wp2_with fail
  refine HP1.out.mono ?_
  rintro e w4 ⟨tv, sv, bv, n1, E1, rfl, h3, hr, hsq, hbd, -⟩; have hpv : printsV hashB arc0 false T0 (T0.map (stampD (newD t))) = hashT hashB T0 := by
    unfold printsV knownA; simp only [Bool.false_and]; exact fastT_nil _ _ (by rw [List.length_map]; exact hashT_len _ _)
  rw [hpv] at h3; obtain ⟨tp, tc, sp, sc, rfl, rfl, hAK⟩ := arcK_new HOK.out HFT.out.fits HT0.out.1 HT0.out.2 (by rw [HN.out]; exact hnb) h3; clear hpv h3; have hn1 : n1 ≤ 3509960 := by have := hbd.2.2.1; omega
  have HBDF := Lib.hid (And.intro hbd.1 hsq); have HR4 := Lib.hid (hr.drop (k' := blk3 (.slice tp (hashT hashB T0).length tc) (.slice sp (T0.map (stampD (newD t))).length sc) bv) (fun b hb => List.mem_append_left _ hb)); obtain ⟨K1, hK1⟩ : ∃ K1, blk3 (.slice tp (hashT hashB T0).length tc) (.slice sp (T0.map (stampD (newD t))).length sc) bv = K1 := ⟨_, rfl⟩
  rw [hK1] at hAK HR4; obtain ⟨A, hA⟩ : ∃ A : Arc, (⟨⟨#[112]⟩, 0, hashT hashB T0, T0.map (stampD (newD t))⟩ : Arc) = A := ⟨_, rfl⟩
  rw [hA] at hAK; have HAE := Lib.hid hA; obtain ⟨la, hla⟩ : ∃ la, (hashT hashB T0).length = la := ⟨_, rfl⟩
  obtain ⟨ls, hls⟩ : ∃ ls, (T0.map (stampD (newD t))).length = ls := ⟨_, rfl⟩
  rw [hla, hls] at hAK ⊢; have HAK := Lib.hid hAK; have HB4 := Lib.hid (HB2.out.off (HR4.out.since) (by simp)); have HBT := Lib.hid (runE_boot (c := fc) (ce := ec) HR4.out ap ep fs es nf ne (HWE.out.1.off (HO2.out.trans_nil HR4.out.since)) HWE.out.2.1 hnfb HWE.out.2.2.1 (HWE.out.2.2.2.1.off HO2.out) HWE.out.2.2.2.2.1 hneb HWE.out.2.2.2.2.2); have hcf := HB4.out.cell; have hlf := HB4.out.lt
  clear hbd hsq hr hK1 hA hla hls hAK HP1
  go_wp2_with fail
  refine HBT.out.mono ?_
  rintro e w5 ⟨rfl, ev, hr5, hk5⟩; obtain ⟨D1, hD1⟩ : ∃ D1, E1.bootE fs es ev = D1 := ⟨_, rfl⟩
  have HI5 := Lib.hid (show ChI (newD t) D1 262144 n1 by
    have hio : E1.inos = (newD t).inos := HBDF.out.2.inos
    have hg := HBDF.out.1; subst hD1; exact ⟨⟨hr5.ok, hg.good.of (hg.good.tree.of rfl rfl rfl (KS.of_inos rfl)) rfl rfl rfl, hg.light.same rfl⟩, ⟨HCO.out, fun e he => (HWE.out.2.2.2.2.2 e he).2⟩,
      fun m hm => by
        have h1 := age_new t m (by rw [← hio]; exact hm); have h2 : m.time ≤ 0 := h1
        exact Int.le_trans h2 (Int.natCast_nonneg _),
      (Nx.refl (newD t)).same hio (Nat.zero_le _), (Slim.new HOK.out).same hio⟩)
  rw [hD1] at hr5; have HR5 := Lib.hid hr5; have HAK5 := Lib.hid (HAK.out.kept hk5); clear hr5 hk5 hD1 hcf hlf HBT HR4 HB4 HAK HBDF
  go_upto_block 0 with fail
  go_cut [] (fun wx => ∃ D nn, nn ≤ 12000000 ∧ Hid (RunE w2 wx gd D nn K1 ∧ ChI (newD t) D 262144 nn ∧ Kept K1 w5 wx))
  case first =>
    go_wp2_with fail
    go_loopw [55] (fun x wr => ∃ (i : Nat) (D : PDisk), x = .int .i64 i ∧ i ≤ m ∧ i ≤ 30 ∧ Hid (RunE w2 wr gd D (n1 + 262146 * i) K1 ∧ ChI (newD t) D 262144 (n1 + 262146 * i) ∧ Kept K1 w5 wr)) (fun x _ => m - (intOf x).toNat)
    case atStart => exact ⟨0, D1, rfl, by omega, by omega, Lib.hid ⟨HR5.out, HI5.out, fun _ _ => rfl⟩⟩
    case round =>
      clear HR5 HI5; obtain ⟨i, D, rfl, hi, hi30, HRW⟩ := hrel
      by_cases hlt : i < m
      · have hil : i < cs.length := by rw [HM.out]; exact hlt
        obtain ⟨a, rfl, hca, hab⟩ := (HC0.out.off (HO2.out.trans_nil HRW.out.1.since)).get i hil; have hz := HZ.out _ (List.getElem_mem hil); generalize cs[i] = x at hca hz; have HZX := Lib.hid hz; have c0 := hca.what; have c1 := hca.path; have c2 := hca.to_; have c3 := hca.data; have hilt : (i : Int) < m := by omega
        have habk : (a.add (i * 4)).block < wr.heap.size := by rw [add_block]; exact hab
        clear hca hab hil
        go_upto_region 15 with fail
        refine code_gen (fun W => Blk W wr.heap.size 73 #[.int .i64 x.what, .string x.path, .string x.to_, .string x.data] ∧ Off [] wr W) ⟨Blk.new _ _ _, (Off.refl _ _).alloc _⟩ ?_
        rintro W ⟨hbc, hof⟩; clear c0 c1 c2 c3 habk; have hcc := hbc.cell; have hlc := hbc.lt; have HRX := Lib.hid (And.intro (HRW.out.1.off hof) (And.intro HRW.out.2.1 (HRW.out.2.2.trans (Kept.of_off hof (fun b hb => by obtain ⟨G, -, -, -, -, h5⟩ := HRW.out.1; exact (h5 b hb).1))))); clear hbc hof HRW
        by_cases h30 : i = 30
        · have hq : ((i : Int) == 30) = true := by rw [h30]; rfl
          clear h30
          go_wp2_with fail
          go_meet
          exact ⟨D, _, by omega, HRX⟩
        have hq : ((i : Int) == 30) = false := beq_eq_false_iff_ne.2 (by omega)
        by_cases hd : 100 < x.data.size
        · have hd2 : (100 : Int) < (x.data.size : Int) := by omega
          go_wp2_with fail
          go_meet
          exact ⟨D, _, by omega, HRX⟩
        have hd2 : ¬ (100 : Int) < (x.data.size : Int) := by omega
        by_cases hk0 : x.what = 0
        · have HOP := Lib.hid (runC_write HRX.out.1 HRX.out.2.1 (by omega) x.path x.data 420 (by omega))
          rw [hk0] at hcc; clear hz
          go_wp2_with fail
          refine HOP.out.mono ?_
          rintro e w7 ⟨⟨v7, rfl⟩, hr7, hk7⟩; have HN7 := Lib.hid (And.intro hr7 (And.intro (HRX.out.2.1.ask ⟨0, x.path, ⟨#[]⟩, x.data, 420⟩ (by show x.data.size ≤ maxLen; unfold maxLen; omega) (show (⟨#[]⟩ : ByteArray).size ≤ maxLen by decide) hr7.ok) (HRX.out.2.2.trans hk7))); clear hr7 hk7 hcc hlc HOP
          go_wp2_with fail
          refine ⟨⟨i + 1, (askE D ⟨0, x.path, ⟨#[]⟩, x.data, 420⟩).2, by congr 1, by omega, by omega, Lib.hid ?_⟩, by simp only [intOf]; omega⟩
          rw [show n1 + 262146 * (i + 1) = n1 + 262146 * i + 262144 + 2 by omega]; exact HN7.out
        by_cases hk1 : x.what = 1
        · have HOP := Lib.hid (runC_remove HRX.out.1 HRX.out.2.1 (by omega) x.path (by omega))
          rw [hk1] at hcc; clear hz
          go_wp2_with fail
          refine HOP.out.mono ?_
          rintro e w7 ⟨⟨v7, rfl⟩, hr7, hk7⟩; have HN7 := Lib.hid (And.intro hr7 (And.intro (HRX.out.2.1.ask ⟨3, x.path, ⟨#[]⟩, ⟨#[]⟩, 0⟩ (show (⟨#[]⟩ : ByteArray).size ≤ maxLen by decide) (show (⟨#[]⟩ : ByteArray).size ≤ maxLen by decide) hr7.ok) (HRX.out.2.2.trans hk7))); clear hr7 hk7 hcc hlc HOP
          go_wp2_with fail
          refine ⟨⟨i + 1, (askE D ⟨3, x.path, ⟨#[]⟩, ⟨#[]⟩, 0⟩).2, by congr 1, by omega, by omega, Lib.hid ?_⟩, by simp only [intOf]; omega⟩
          rw [show n1 + 262146 * (i + 1) = n1 + 262146 * i + 262144 + 2 by omega]; exact HN7.out
        by_cases hk2 : x.what = 2
        · have HOP := Lib.hid (runC_move HRX.out.1 HRX.out.2.1 (by omega) x.path x.to_ (by omega) (by omega))
          rw [hk2] at hcc; clear hz
          go_wp2_with fail
          refine HOP.out.mono ?_
          rintro e w7 ⟨⟨v7, rfl⟩, hr7, hk7⟩; have HN7 := Lib.hid (And.intro hr7 (And.intro (HRX.out.2.1.ask ⟨4, x.path, x.to_, ⟨#[]⟩, 0⟩ (show (⟨#[]⟩ : ByteArray).size ≤ maxLen by decide) (by show x.to_.size ≤ maxLen; have := HZX.out.2.1; unfold maxLen; omega) hr7.ok) (HRX.out.2.2.trans hk7))); clear hr7 hk7 hcc hlc HOP
          go_wp2_with fail
          refine ⟨⟨i + 1, (askE D ⟨4, x.path, x.to_, ⟨#[]⟩, 0⟩).2, by congr 1, by omega, by omega, Lib.hid ?_⟩, by simp only [intOf]; omega⟩
          rw [show n1 + 262146 * (i + 1) = n1 + 262146 * i + 262144 + 2 by omega]; exact HN7.out
        by_cases hk3 : x.what = 3
        · have HOP := Lib.hid (runC_replace HRX.out.1 HRX.out.2.1 (by omega) x.path x.to_ (by omega) (by omega))
          rw [hk3] at hcc; clear hz
          go_wp2_with fail
          refine HOP.out.mono ?_
          rintro e w7 ⟨⟨v7, rfl⟩, hr7, hk7⟩; have HN7 := Lib.hid (And.intro hr7 (And.intro (HRX.out.2.1.ask ⟨5, x.path, x.to_, ⟨#[]⟩, 0⟩ (show (⟨#[]⟩ : ByteArray).size ≤ maxLen by decide) (by show x.to_.size ≤ maxLen; have := HZX.out.2.1; unfold maxLen; omega) hr7.ok) (HRX.out.2.2.trans hk7))); clear hr7 hk7 hcc hlc HOP
          go_wp2_with fail
          refine ⟨⟨i + 1, (askE D ⟨5, x.path, x.to_, ⟨#[]⟩, 0⟩).2, by congr 1, by omega, by omega, Lib.hid ?_⟩, by simp only [intOf]; omega⟩
          rw [show n1 + 262146 * (i + 1) = n1 + 262146 * i + 262144 + 2 by omega]; exact HN7.out
        by_cases hk4 : x.what = 4
        · have HOP := Lib.hid (runC_sync HRX.out.1 HRX.out.2.1 (by omega) x.path (by omega))
          rw [hk4] at hcc; clear hz
          go_wp2_with fail
          refine HOP.out.mono ?_
          rintro e w7 ⟨⟨v7, rfl⟩, hr7, hk7⟩; have HN7 := Lib.hid (And.intro hr7 (And.intro (HRX.out.2.1.ask ⟨6, x.path, ⟨#[]⟩, ⟨#[]⟩, 0⟩ (show (⟨#[]⟩ : ByteArray).size ≤ maxLen by decide) (show (⟨#[]⟩ : ByteArray).size ≤ maxLen by decide) hr7.ok) (HRX.out.2.2.trans hk7))); clear hr7 hk7 hcc hlc HOP
          go_wp2_with fail
          refine ⟨⟨i + 1, (askE D ⟨6, x.path, ⟨#[]⟩, ⟨#[]⟩, 0⟩).2, by congr 1, by omega, by omega, Lib.hid ?_⟩, by simp only [intOf]; omega⟩
          rw [show n1 + 262146 * (i + 1) = n1 + 262146 * i + 262144 + 2 by omega]; exact HN7.out
        by_cases hk5 : x.what = 5
        · have HOP := Lib.hid (runC_flush HRX.out.1 HRX.out.2.1 (by omega))
          rw [hk5] at hcc; clear hz
          go_wp2_with fail
          refine HOP.out.mono ?_
          rintro e w7 ⟨⟨v7, rfl⟩, hr7, hk7⟩; have HN7 := Lib.hid (And.intro hr7 (And.intro (HRX.out.2.1.ask ⟨7, ⟨#[]⟩, ⟨#[]⟩, ⟨#[]⟩, 0⟩ (show (⟨#[]⟩ : ByteArray).size ≤ maxLen by decide) (show (⟨#[]⟩ : ByteArray).size ≤ maxLen by decide) hr7.ok) (HRX.out.2.2.trans hk7))); clear hr7 hk7 hcc hlc HOP
          go_wp2_with fail
          refine ⟨⟨i + 1, (askE D ⟨7, ⟨#[]⟩, ⟨#[]⟩, ⟨#[]⟩, 0⟩).2, by congr 1, by omega, by omega, Lib.hid ?_⟩, by simp only [intOf]; omega⟩
          rw [show n1 + 262146 * (i + 1) = n1 + 262146 * i + 262144 + 2 by omega]; exact HN7.out
        have hq0 : (x.what == 0) = false := beq_eq_false_iff_ne.2 hk0
        have hq1 : (x.what == 1) = false := beq_eq_false_iff_ne.2 hk1
        have hq2 : (x.what == 2) = false := beq_eq_false_iff_ne.2 hk2
        have hq3 : (x.what == 3) = false := beq_eq_false_iff_ne.2 hk3
        have hq4 : (x.what == 4) = false := beq_eq_false_iff_ne.2 hk4
        have hq5 : (x.what == 5) = false := beq_eq_false_iff_ne.2 hk5
        clear hz hk0 hk1 hk2 hk3 hk4 hk5
        go_wp2_with fail
        refine ⟨⟨i + 1, D, by congr 1, by omega, by omega, Lib.hid ?_⟩, by simp only [intOf]; omega⟩
        exact ⟨HRX.out.1.le (by omega), HRX.out.2.1.mono (by omega), HRX.out.2.2⟩
      go_wp2_with fail
      go_meet
      exact ⟨D, _, by omega, HRW⟩
  obtain ⟨D, nn, hnn, HRW⟩ := hcut; clear HR5 HI5; have HAK6 := Lib.hid (HAK5.out.kept HRW.out.2.2); have HR6 := Lib.hid HRW.out.1; have HI6 := Lib.hid HRW.out.2.1; clear HRW HAK5
  go_wp2_with fail
  refine (runE_boot0 HR6.out).mono ?_
  rintro e w7 ⟨rfl, hr7, hk7⟩; obtain ⟨D2, hD2⟩ : ∃ D2, D.boot [] = D2 := ⟨_, rfl⟩
  have HF2 := Lib.hid (show Fine D2 nn ∧ SameQ D2 D2 ∧ okTree D2.tree = true ∧ Nx (newD t) D2 by
    subst hD2; have h1 := fine_boot HI6.out.fine; have h2 : Slim (D.boot []) := HI6.out.slim.same rfl
    exact ⟨h1, SameQ.refl ⟨rfl, rfl⟩ rfl, tree_ok h1 h2, HI6.out.nx.trans ((Nx.refl D).same rfl (Nat.le_refl _))⟩)
  rw [hD2] at hr7; have HR7 := Lib.hid hr7; have HAK7 := Lib.hid (HAK6.out.kept hk7); have hl7 : ∀ b ∈ K1, b < w7.heap.size := fun b hb => by obtain ⟨G, -, -, -, -, h5⟩ := hr7; exact (h5 b hb).1
  have HL7 := Lib.hid hl7; clear hr7 hk7 hD2 hl7 HR6 HI6 HAK6; have htl2 := okTree_len HF2.out.2.2.1; obtain ⟨T1, hT1⟩ : ∃ T1, foundIn (seeV []) D2.tree [] = T1 := ⟨_, rfl⟩
  have HT1 := Lib.hid (show (∀ x ∈ T1, x ∈ D2.tree) ∧ T1.length ≤ 1000 from by
    rw [← hT1]; refine ⟨fun x hx => (List.mem_filter.1 (List.mem_filter.1 hx).1).1, ?_⟩; have h2 : (foundIn (seeV []) D2.tree []).length ≤ D2.tree.length := by
      unfold foundIn subN; exact Nat.le_trans (List.length_filter_le _ _) (List.length_filter_le _ _)
    omega)
  obtain ⟨B1, hB1⟩ : ∃ B1, blockIn (seeV []) D2.tree ⟨#[]⟩ = B1 := ⟨_, rfl⟩
  obtain ⟨S1, hS1⟩ : ∃ S1, T1.map (stampD D2) = S1 := ⟨_, rfl⟩
  obtain ⟨X1, hX1⟩ : ∃ X1, hashT hashB T1 = X1 := ⟨_, rfl⟩
  have HSM := Lib.hid (fun fast : Bool => show printsV hashB A fast T1 S1 = X1 by
    rw [← hX1, ← hS1]; exact fast_same HFN.out HF2.out.1 (age_new t) HF2.out.2.2.2 hashB (fun x hx => by rw [newD_tree HOK.out]; exact HT0.out.1 x hx) HT1.out.1 A (by rw [← HAE.out]) (by rw [← HAE.out]) fast)
  have HXL := Lib.hid (show X1.length ≤ 1000 ∧ S1.length ≤ 1000 by
    rw [← hX1, ← hS1, List.length_map]; have := hashT_len hashB T1; have := HT1.out.2; omega)
  go_upto_region 32 with fail
  refine code_gen (fun W => Blk W w7.heap.size 30 #[.string ⟨#[112]⟩, .int .i64 0, .slice tp la tc, .slice sp ls sc] ∧ Off [] w7 W) ⟨Blk.new _ _ _, (Off.refl _ _).alloc _⟩ ?_
  rintro W8 ⟨hbo, hoo⟩; have HR8 := Lib.hid (HR7.out.more (k' := [w7.heap.size]) hoo (fun b hb => by simp at hb; subst hb; exact ⟨Nat.le_refl _, hbo.lt⟩)); have HBO := Lib.hid hbo; have HAK8 := Lib.hid ((HAK7.out.off hoo).sub (K' := [w7.heap.size] ++ K1) (fun b hb => List.mem_append_right _ hb)); obtain ⟨go, hgo⟩ : ∃ go, w7.heap.size = go := ⟨_, rfl⟩
  rw [hgo] at HR8 HBO HAK8; rw [hgo]; have hco := HBO.out.cell; have hlo := HBO.out.lt; clear hbo hoo hgo HR7 HAK7 HL7; have HP2 := Lib.hid (show Calls Tryz.prog 23 #[.pointer (some ⟨gd, 0, none⟩), .slice none 0 0, .agg #[.string ⟨#[112]⟩, .int .i64 0, .slice tp la tc, .slice sp ls sc], .bool true] W8 _ from by
    have := prints_quiet (C := 0) (m := 3000) _ A true HF2.out.1 HF2.out.2.2.1 HF2.out.2.1 HR8.out (rlk_nil _ W8) HAK8.out HT2.out ⟨HF2.out.1, cost_nil HF2.out.2.1.edits, by omega, by omega⟩; rw [hT1, hS1, hB1, HSM.out true] at this; exact this)
  go_wp2_with fail
  refine HP2.out.mono ?_
  rintro e w9 ⟨tv2, sv2, bv2, n2, E2, rfl, h3, hr9, hsq9, hbd9, hk9⟩; have HB9 := Lib.hid (hk9.blk HBO.out (by simp)); have HTR9 := Lib.hid h3; have HP3 := Lib.hid (show Calls Tryz.prog 23 #[.pointer (some ⟨gd, 0, none⟩), .slice none 0 0, .agg #[.string ⟨#[112]⟩, .int .i64 0, .slice tp la tc, .slice sp ls sc], .bool false] w9 _ from by
    have := prints_quiet (C := 0) (m := 0) _ A false HF2.out.1 HF2.out.2.2.1 hsq9 hr9 (rlk_nil _ w9) ((HAK8.out.kept hk9).sub (fun b hb => List.mem_append_right _ hb)) HT2.out ((budC w2 gd 0).less hbd9 (by omega)); rw [hT1, hS1, hB1, HSM.out false] at this; exact this)
  clear h3 hr9 hsq9 hbd9 hk9 hT1 hS1 hB1 hX1 hco hlo HP2 HR8 HAK8 HBO; have hco := HB9.out.cell; have hlo := HB9.out.lt
  go_wp2_with fail
  refine HP3.out.mono ?_
  rintro e w10 ⟨tv3, sv3, bv3, n3, E3, rfl, h3, hr10, -, -, hk10⟩; obtain ⟨r1, r2, r3⟩ := HTR9.out; have q1 := hk10.row r1 (fun b hb => by unfold blk3; simp [hb]); have q2 := hk10.row r2 (fun b hb => by unfold blk3; simp [hb]); have q3 := hk10.row r3 (fun b hb => by unfold blk3; simp [hb]); obtain ⟨s1, s2, s3⟩ := h3
  have HSA := Lib.hid (fun (W : World) (ho : Off [] w10 W) => same_ownF (own_offk (k := []) q1 ho (by simp)) (own_offk (k := []) s1 ho (by simp)) (by have := HXL.out.1; omega)); have HSB := Lib.hid (fun (W : World) (ho : Off [] w10 W) => sameS_own (own_offk (k := []) q2 ho (by simp)) (own_offk (k := []) s2 ho (by simp)) (by have := HXL.out.2; omega)); obtain ⟨p3, c3, rfl, -, -, -⟩ := own_atG q3
  obtain ⟨p4, c4, rfl, -, -, -⟩ := own_atG s3; obtain ⟨p5, c5, rfl, -, -, -⟩ := own_atG q1; obtain ⟨p6, c6, rfl, -, -, -⟩ := own_atG q2; obtain ⟨p7, c7, rfl, -, -, -⟩ := own_atG s1; obtain ⟨p8, c8, rfl, -, -, -⟩ := own_atG s2; have HO10 := Lib.hid (HO2.out.trans_nil hr10.since); have hbl : ((B1.length : Int) == (B1.length : Int)) = true := beq_self_eq_true _
  generalize X1.length = nx at *
  generalize S1.length = nsl at *
  generalize B1.length = nbl at *
  clear q1 q2 q3 r1 r2 r3 s1 s2 s3 hk10 hr10 hco hlo HP3 HTR9
  go_wp2_with fail
  refine (HSA.out _ (Off.refl _ _)).mono ?_
  rintro e w11 ⟨rfl, ho11⟩
  go_wp2_with fail
  refine (HSB.out _ ho11).mono ?_
  rintro e w12 ⟨rfl, ho12⟩
  go_wp2_with fail
  go_ret
  exact ⟨rfl, HO10.out.trans_nil (ho11.trans_nil ho12)⟩
end
end Go.Proofs.YthciejabapdbgaaGreatDoor
