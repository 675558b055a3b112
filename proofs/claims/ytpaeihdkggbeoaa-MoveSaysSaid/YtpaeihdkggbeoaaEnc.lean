/- The walk of mux.Encode: the bytes of a frame. Conditions: numbers from 0 on, a text of less than 2^40 bytes. -/
import Derived.Test.YtpaeihdkggbeoaaCode
import Derived.Test.YtpaeihdkggbeoaaShelf
import Derived.Deep.RegionHeld3
namespace Go.Proofs.Ytpaeihdkggbeoaa
open Go.RowKit Go.Op

def StrPost (w : World) (l : List UInt8) (e : Ending) (w' : World) : Prop := e = .returned (.string ⟨l.toArray⟩) ∧ Off [] w w'
def textB (s : ByteArray) : List UInt8 := Pl.num s.size ++ s.data.toList

theorem numLen {n : Nat} (h : n < 1099511627776) : (Pl.num n).length ≤ 6 := Pl.num_len 5 n (by omega)
theorem sizeMk (l : List UInt8) : (ByteArray.mk l.toArray).size = l.length := by simp [ByteArray.size]
theorem mk_append (l : List UInt8) (s : ByteArray) : (ByteArray.mk l.toArray) ++ s = ⟨(l ++ s.data.toList).toArray⟩ := by
  apply ByteArray.ext; simp [ByteArray.data_append]

set_option maxRecDepth 100000 in
theorem text_any (s : ByteArray) (w : World) (hs : s.size < 1099511627776) : Calls Try.prog 37 #[.string s] w (StrPost w (textB s)) := by
  have hadd : ∀ w1 : World, (Op.stringOp .add ⟨(Pl.num s.size).toArray⟩ s).run Try.prog w1 = .ok (.string ⟨(Pl.num s.size ++ s.data.toList).toArray⟩) w1 := fun w1 => by
    rw [run_string_add_sum w1 ⟨(Pl.num s.size).toArray⟩ s (by rw [sizeMk]; have := numLen hs; omega), mk_append]
  go_enter Try.func37, Try.ntmps37
  go_wp2_with (go_at_call 36; refine (num_any _ _ (by omega)).mono ?_; rintro e w1 ⟨rfl, ho⟩; skip)
  go_ret
  exact ⟨rfl, ho⟩

theorem keepA {w wa wb : World} {g : Nat} {cs : Array Value} (ho : Off [] wa wb) (h : Off [] w wa ∧ g < wa.heap.size ∧ ∀ i, wa.cell? ⟨g, i, none⟩ = cs[i]?) :
    Off [] w wb ∧ g < wb.heap.size ∧ ∀ i, wb.cell? ⟨g, i, none⟩ = cs[i]? :=
  ⟨h.1.trans_nil ho, Nat.lt_of_lt_of_le h.2.1 ho.size, fun i => (ho.cell (p := ⟨g, i, none⟩) h.2.1 (by simp)).trans (h.2.2 i)⟩
theorem keep0 (w : World) (cs : Array Value) (t : TypeId) : Off [] w (w.alloc (.cells cs t)).drew ∧ w.heap.size < (w.alloc (.cells cs t)).drew.heap.size ∧ ∀ i, (w.alloc (.cells cs t)).drew.cell? ⟨w.heap.size, i, none⟩ = cs[i]? :=
  ⟨((Off.refl _ _).alloc _).drew, by show _ < (w.alloc _).heap.size; simp, fun i => (Blk.new w t cs).cell i⟩
theorem keepB {w wa : World} {g : Nat} {cs : Array Value} {o : Obj} (h : Off [] w wa ∧ g < wa.heap.size ∧ ∀ i, wa.cell? ⟨g, i, none⟩ = cs[i]?) :
    Off [] w (wa.alloc o) ∧ g < (wa.alloc o).heap.size ∧ ∀ i, (wa.alloc o).cell? ⟨g, i, none⟩ = cs[i]? :=
  keepA ((Off.refl _ _).alloc _) h

theorem all4 (s1 s2 s3 s4 : ByteArray) (c : Nat) (w : World) (hc : 4 ≤ c) (h1 : s1.size ≤ 2199023255552) (h2 : s2.size ≤ 2199023255552) (h3 : s3.size ≤ 2199023255552) (h4 : s4.size ≤ 2199023255552) :
    Calls Try.prog 35 #[.slice (some ⟨w.heap.size, 0, none⟩) 4 c] (w.alloc (.cells #[.string s1, .string s2, .string s3, .string s4] 9))
      (StrPost (w.alloc (.cells #[.string s1, .string s2, .string s3, .string s4] 9)) (s1.data.toList ++ s2.data.toList ++ s3.data.toList ++ s4.data.toList)) := by
  have hj := Try.strings_Join w.heap.size 0 c [s1, s2, s3, s4] ⟨#[]⟩ (w.alloc (.cells #[.string s1, .string s2, .string s3, .string s4] 9))
    (fun j x hx => by
      rw [Nat.zero_add, (Blk.new w _ _).cell j]
      match j, hx with
      | 0, hx => cases hx; rfl
      | 1, hx => cases hx; rfl
      | 2, hx => cases hx; rfl
      | 3, hx => cases hx; rfl) (by simp) (by simp) hc
    (by simp [Lib.join, List.intercalate, List.intersperse]; simp only [ByteArray.size] at *; omega)
  have HJ := Lib.hid hj
  clear hj
  go_enter Try.func35, Try.ntmps35
  go_wp2_with (go_at_call 53; refine HJ.out.mono ?_; rintro e w1 ⟨rfl, hb⟩)
  go_ret
  exact ⟨by simp [Lib.join, List.intercalate, List.intersperse], Off.of_below hb⟩

def encB (c a : Nat) (s : ByteArray) (l : Bool) : List UInt8 := Pl.num c ++ Pl.num a ++ textB s ++ (flagS l).data.toList
set_option maxRecDepth 100000 in
theorem encode_any (c a : Nat) (s : ByteArray) (l : Bool) (w : World) (hc : c < 1099511627776) (ha : a < 1099511627776) (hs : s.size < 1099511627776) :
    Calls Try.prog 20 #[.agg #[.int .i64 c, .int .i64 a, .string s, .bool l]] w (StrPost w (encB c a s l)) := by
  have z1 : (ByteArray.mk (Pl.num c).toArray).size ≤ 2199023255552 := by rw [sizeMk]; have := numLen hc; omega
  have z2 : (ByteArray.mk (Pl.num a).toArray).size ≤ 2199023255552 := by rw [sizeMk]; have := numLen ha; omega
  have z3 : (ByteArray.mk (textB s).toArray).size ≤ 2199023255552 := by rw [sizeMk]; have := numLen hs; simp [textB]; simp only [ByteArray.size] at *; omega
  have z4 : (flagS l).size ≤ 2199023255552 := by simp [ByteArray.size, flagS]
  have Z1 := Lib.hid z1; have Z2 := Lib.hid z2; have Z3 := Lib.hid z3; have Z4 := Lib.hid z4
  clear z1 z2 z3 z4
  go_enter Try.func20, Try.ntmps20
  go_wp2_with fail
  go_region_held3 (fun w' => Off [] w w' ∧ w.heap.size < w'.heap.size ∧ ∀ i, w'.cell? ⟨w.heap.size, i, none⟩ = (#[Value.int .i64 c, .int .i64 a, .string s, .bool l] : Array Value)[i]?) (first | exact keep0 _ _ _ | exact keepA (by assumption) (by assumption) | exact keepB (by assumption) | exact keepA (by assumption) (keepB (by assumption)) | assumption) (first
    | (go_at_call 36; refine (num_any _ _ (by omega)).mono ?_; rintro e w1 ⟨rfl, ho⟩)
    | (go_at_call 37; refine (text_any _ _ (by omega)).mono ?_; rintro e w1 ⟨rfl, ho⟩)
    | (go_at_call 38; refine (flag_any _ _).mono ?_; rintro e w1 ⟨rfl, rfl⟩)
    | (go_at_call 35; refine (all4 _ _ _ _ _ _ (by omega) Z1.out Z2.out Z3.out Z4.out).mono ?_; rintro e w1 ⟨rfl, ho⟩))
  go_wp2
  go_ret
  exact ⟨by simp [encB], (by assumption : Off [] w _ ∧ _).1⟩
end Go.Proofs.Ytpaeihdkggbeoaa
