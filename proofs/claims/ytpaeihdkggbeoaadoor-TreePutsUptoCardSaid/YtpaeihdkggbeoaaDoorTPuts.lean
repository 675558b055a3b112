/- hawserlaw06.TreePuts: the walk. Conditions: the tables of unicode/utf8 are laid; no string is longer than 1048576 bytes. -/
import Derived.Test.YtpaeihdkggbeoaaDoorRPut
import Derived.Test.YtpaeihdkggbeoaaDoorLent
import Derived.Test.YtpaeihdkggbeoaaDoorBack2
namespace Go.Proofs.YtpaeihdkggbeoaaDoor
open Go.RowKit Go.Op

theorem putR_len (t : List Node) (path : ByteArray) (v : List Node) : (putR t path v).1.length ≤ 1000 := by
  rcases putR_cases t path v with ⟨_, h⟩ | ⟨_, h⟩
  · rw [h]; simp
  · rw [h.out]; exact h.len
theorem own_any {W : World} {base e g m cap : Nat} {xs : List Value} (h : W.ownsRow base e 4 (.slice (some ⟨g, 0, none⟩) m cap) m xs) {j : Nat} (hj : j < m * 4) : ∃ u, W.cell? ⟨g, j, none⟩ = some u := by
  have hl := h.1
  have : xs[j]? = some (xs[j]'(by omega)) := List.getElem?_eq_getElem (by omega)
  exact ⟨_, own_cell h this⟩
set_option maxRecDepth 100000 in
set_option maxHeartbeats 8000000 in
theorem puts_any (p q : Option Addr) (t v : List Node) (n m c d : Nat) (path : ByteArray) (w : World) (hR : Row w p t) (hV : Row w q v) (hn : t.length = n) (hm : v.length = m) (_ : n ≤ c) (hd : m ≤ d) (_ : c ≤ maxLen) (hdm : d ≤ maxLen) (hpn : p = none → t = [] ∧ c = 0) (hqn : q = none → v = [] ∧ d = 0) (hbn : n ≤ 1048576) (hbm : m ≤ 1048576) (hFT : Fits1 t) (hFV : Fits1 v) (hps : path.size ≤ 1048576) (hT : Tabs w) :
    Calls Tryd.prog 5 #[.slice p n c, .string path, .slice q m d] w fun e w' => e = .returned (.bool true) ∧ Off [] w w' := by
  have HN := Lib.hid hn
  have HM := Lib.hid hm
  have HFT := Lib.hid hFT
  have HFV := Lib.hid hFV
  have HR := Lib.hid (fun (W : World) (ho : Off [] w W) => hR.off ho)
  have HV := Lib.hid (fun (W : World) (ho : Off [] w W) => hV.off ho)
  have HLA := Lib.hid (fun (W : World) (ho : Off [] w W) => lent_any p t n c W (hR.off ho) hn hbn hpn)
  have HLB := Lib.hid (fun (W : World) (ho : Off [] w W) => lent_any q v m d W (hV.off ho) hm hbm hqn)
  have HRP := Lib.hid (fun (W : World) (ho : Off [] w W) => rput_any p q t v n m c d path W (hR.off ho) (hV.off ho) hn hm hd hdm (by omega) (by omega) hFT hFV hps)
  clear hn hm hFT hFV hR hV
  go_enter Tryd.func5, Tryd.ntmps5
  go_wp2_with fail
  refine (awake_any _ hT).mono ?_
  rintro e w1 ⟨rfl, ho⟩
  go_wp2_with fail
  refine (HLA.out w1 ho).mono ?_
  rintro e w2 ⟨ga, ca, rfl, hownA, hoA⟩
  have ho2 := ho.trans_nil hoA
  clear hoA ho
  go_wp2_with fail
  refine (HLB.out w2 ho2).mono ?_
  rintro e w3 ⟨gb, cb, rfl, hownB, hoB⟩
  have ho3 := ho2.trans_nil hoB
  have hlA : (t ++ [spareN, roomN]).length = n + 2 := by rw [List.length_append, HN.out]; rfl
  have hlB : (v ++ [spareN, roomN]).length = m + 2 := by rw [List.length_append, HM.out]; rfl
  have hownA := own_keep hownA hoB
  rw [← hlA] at hownA
  rw [← hlB] at hownB
  obtain ⟨pa, ca', hva, hrA, hcA, -, -⟩ := own_row hownA
  obtain ⟨pb, cb', hvb, hrB, hcB, -, -⟩ := own_row hownB
  cases hva
  cases hvb
  have hmxA : ca ≤ maxLen := by
    rcases hownA.2 with ⟨h0, _⟩ | ⟨_, _, _, hv, _, _, _, hmx, _⟩
    · cases h0
    · cases hv; exact hmx
  have hmxB : cb ≤ maxLen := by
    rcases hownB.2 with ⟨h0, _⟩ | ⟨_, _, _, hv, _, _, _, hmx, _⟩
    · cases h0
    · cases hv; exact hmx
  rw [hlA] at hcA
  rw [hlB] at hcB
  have htA : Row w3 (some ⟨ga, 0, none⟩) t := by have := hrA.take n; rw [List.take_append_of_le_length (by rw [HN.out]; omega), List.take_of_length_le (by rw [HN.out]; omega)] at this; exact this
  have htB : Row w3 (some ⟨gb, 0, none⟩) v := by have := hrB.take m; rw [List.take_append_of_le_length (by rw [HM.out]; omega), List.take_of_length_le (by rw [HM.out]; omega)] at this; exact this
  have HPUT := Lib.hid (put_any (some ⟨ga, 0, none⟩) (some ⟨gb, 0, none⟩) t v n m ca cb path w3 htA htB HN.out HM.out (by omega) (by omega) hmxA hmxB (fun h => by cases h) (fun h => by cases h) HFT.out.fits HFV.out.fits (hT.off ho3))
  have HKA := Lib.hid (fun (W : World) (ho : Off [] w3 W) => kept_any ⟨ga, 0, none⟩ p t n ca c W (hrA.off ho) HN.out hcA hbn (HR.out W (ho3.trans_nil ho)))
  have HKB := Lib.hid (fun (W : World) (ho : Off [] w3 W) => kept_any ⟨gb, 0, none⟩ q v m cb d W (hrB.off ho) HM.out hcB hbm (HV.out W (ho3.trans_nil ho)))
  have HO3 := Lib.hid ho3
  clear hownA hownB hrA hrB htA htB hlA hlB hoB ho2 ho3 hT
  go_wp2_with fail
  refine HPUT.out.mono ?_
  rintro e w4 ⟨x, rfl, hownX, ho4⟩
  clear HPUT
  go_wp2_with fail
  refine (HRP.out w4 (HO3.out.trans_nil ho4)).mono ?_
  rintro e w5 ⟨y, rfl, hownY, ho5⟩
  have hownX := own_keep hownX ho5
  have hof5 := ho4.trans_nil ho5
  clear ho4 ho5
  obtain ⟨px, cx, rfl, hrX, hcX, -, -⟩ := own_row hownX
  obtain ⟨py, cy, rfl, hrY, -, -, -⟩ := own_row hownY
  have HSM := Lib.hid (fun h => rsame_any (putR t path v).1 (putR t path v).1 px py cx cy w5 h h hrX hrY)
  rw [decide_eq_true (rfl : (putR t path v).1 = (putR t path v).1)] at HSM
  clear hrX hrY hownY
  have hlX := putR_len t path v
  generalize (putR t path v).2 = code at *
  generalize (putR t path v).1 = L at *
  obtain ⟨N, hN⟩ : ∃ N, L.length = N := ⟨_, rfl⟩
  rw [hN] at HSM hownX hcX hlX ⊢
  clear hN
  go_wp2_with fail
  refine (HSM.out (by omega)).mono ?_
  rintro e w6 ⟨rfl, ho6⟩
  have hownX := own_keep hownX ho6
  have hof6 := hof5.trans_nil ho6
  clear ho6 hof5
  go_wp2_with fail
  refine (HKA.out w6 hof6).mono ?_
  rintro e w7 ⟨rfl, ho6⟩
  have hownX := own_keep hownX ho6
  have hof6 := hof6.trans_nil ho6
  clear ho6
  go_wp2_with fail
  refine (HKB.out w7 hof6).mono ?_
  rintro e w8 ⟨rfl, ho6⟩
  have hownX := own_keep hownX ho6
  have hof6 := hof6.trans_nil ho6
  clear ho6
  go_wp2_with fail
  go_loopw [57] (fun x wr => ∃ (k : Nat) (ys : List Value), x = .int .i64 k ∧ k ≤ N ∧ wr.ownsRow w3.heap.size 29 4 (.slice px N cx) N ys ∧ Off [] w3 wr) (fun x _ => N - (intOf x).toNat)
  case atStart => exact ⟨0, _, rfl, by omega, hownX, hof6⟩
  case round =>
    clear hownX hof6
    obtain ⟨k, ys, rfl, hk, hown, hof⟩ := hrel
    by_cases hkN : k < N
    · obtain ⟨g, cg, hgv, hcg⟩ := own_some hown (by omega)
      cases hgv
      obtain ⟨u, hu⟩ := own_any hown (show k * 4 + 1 < N * 4 by omega)
      have hf := own_frozen hown (k * 4 + 1)
      have HS := Lib.hid (own_set hown (by omega) (k * 4 + 1) (.int .i64 7))
      have HO := Lib.hid (hof.setCell (p := ⟨g, k * 4 + 1, none⟩) (.inl (own_lt hown).1) (.int .i64 7))
      clear hown hof
      go_wp2_with fail
      exact ⟨⟨k + 1, _, by congr 1, by omega, HS.out, HO.out⟩, by simp only [intOf]; omega⟩
    · obtain rfl : k = N := by omega
      clear hown
      go_wp2_with fail
      refine (HKA.out _ hof).mono ?_
      rintro e w9 ⟨rfl, ho6⟩
      have hof6 := hof.trans_nil ho6
      clear ho6 hof
      go_wp2_with fail
      refine (HKB.out _ hof6).mono ?_
      rintro e w10 ⟨rfl, ho6⟩
      have hof6 := hof6.trans_nil ho6
      clear ho6
      go_wp2_with fail
      go_ret
      exact ⟨rfl, HO3.out.trans_nil hof6⟩
end Go.Proofs.YtpaeihdkggbeoaaDoor
