/- The walks of package code's reader at a flag and at its end, and of mux.Decode on what mux.Encode has written. Conditions: numbers below 2^21, a text of at most 65536 bytes. -/
import Derived.Test.YtpaeihdkggbeoaaDec
import Derived.Test.YtpaeihdkggbeoaaEnc
import Derived.BigRegion
namespace Go.Proofs.Ytpaeihdkggbeoaa
open Go.RowKit Go.Op

theorem flagS_size (b : Bool) : (flagS b).size = 1 := by cases b <;> rfl

set_option maxRecDepth 100000 in
theorem rFlag (gR gB : Nat) (b : Bool) (w : World) (h : Rdr w gR gB (flagS b)) :
    Calls Try.prog 42 #[.pointer (some ⟨gR, 0, none⟩)] w (RdrPost w gR gB (.bool b) ⟨#[]⟩) := by
  obtain ⟨hR, hB⟩ := h
  have hcR := hR.cell
  have hcB := hB.cell
  have hfB := hB.frozen
  have hlB := hB.lt
  have hne : gR ≠ gB := hR.ne_ hB (by decide)
  cases b
  all_goals
    simp only [flagS] at hcB
    go_enter Try.func42, Try.ntmps42
    go_wp2
    go_region
  all_goals go_wp2
  all_goals go_ret
  all_goals exact ⟨rfl, ⟨hR.far hne _, hB.set_ 0 _⟩, ((Off.refl _ _).setCell (.inr (by simp)) _).drew⟩

theorem rEnd (gR gB : Nat) (w : World) (h : Rdr w gR gB ⟨#[]⟩) :
    Calls Try.prog 43 #[.pointer (some ⟨gR, 0, none⟩)] w fun e w' => e = .returned (.int .i64 0) ∧ w = w' := by
  obtain ⟨hR, hB⟩ := h
  have hcR := hR.cell
  have hcB := hB.cell
  go_enter Try.func43, Try.ntmps43
  go_wp2
  go_ret
  exact ⟨rfl, rfl⟩

def FrameV (c a : Nat) (x : ByteArray) (l : Bool) : Value := .agg #[.int .i64 c, .int .i64 a, .string x, .bool l]
def encS (c a : Nat) (x : ByteArray) (l : Bool) : ByteArray := ⟨(Pl.num c).toArray⟩ ++ (⟨(Pl.num a).toArray⟩ ++ (⟨(Pl.num x.size).toArray⟩ ++ (x ++ flagS l)))
theorem encS_eq (c a : Nat) (x : ByteArray) (l : Bool) : (⟨(encB c a x l).toArray⟩ : ByteArray) = encS c a x l := by
  apply ByteArray.ext
  simp [encB, encS, textB, ByteArray.data_append]

set_option maxRecDepth 100000 in
theorem decode_any (c a : Nat) (x : ByteArray) (l : Bool) (w : World) (hc : c < 2097152) (ha : a < 2097152) (hx : x.size ≤ 65536) :
    Calls Try.prog 21 #[.string (encS c a x l)] w fun e w' => e = .returned (.tuple #[.agg #[.int .i64 c, .int .i64 a, .string x, .bool l], .int .i64 0]) ∧ Off [] w w' := by
  have s0 := flagS_size l
  have s00 : (flagS l).size ≤ 1 := by omega
  have s1 : (x ++ flagS l).size ≤ 65537 := by rw [ByteArray.size_append]; omega
  have l1 := numLen (n := x.size) (by omega)
  have l2 := numLen (n := a) (by omega)
  have s2 : ((⟨(Pl.num x.size).toArray⟩ : ByteArray) ++ (x ++ flagS l)).size ≤ 65547 := by rw [ByteArray.size_append, sizeMk]; omega
  have s3 : ((⟨(Pl.num a).toArray⟩ : ByteArray) ++ (⟨(Pl.num x.size).toArray⟩ ++ (x ++ flagS l))).size ≤ 65557 := by rw [ByteArray.size_append, sizeMk]; omega
  have hr0 : Rdr ((((w.alloc (.cells #[.int .i64 0, .int .i64 0, .string ⟨#[]⟩, .bool false] 66)).alloc (.cells #[.string (encS c a x l), .int .i64 0] 119)).alloc (.cells #[.pointer (some ⟨w.heap.size + 1, 0, none⟩)] 121))) (w.heap.size + 2) (w.heap.size + 1) (encS c a x l) :=
    ⟨by have := Blk.new ((w.alloc (.cells #[.int .i64 0, .int .i64 0, .string ⟨#[]⟩, .bool false] 66)).alloc (.cells #[.string (encS c a x l), .int .i64 0] 119)) 121 #[.pointer (some ⟨w.heap.size + 1, 0, none⟩)]; simpa using this,
     by have := (Blk.new (w.alloc (.cells #[.int .i64 0, .int .i64 0, .string ⟨#[]⟩, .bool false] 66)) 119 #[.string (encS c a x l), .int .i64 0]).alloc (.cells #[.pointer (some ⟨w.heap.size + 1, 0, none⟩)] 121); simpa using this⟩
  have hz0 : Blk ((((w.alloc (.cells #[.int .i64 0, .int .i64 0, .string ⟨#[]⟩, .bool false] 66)).alloc (.cells #[.string (encS c a x l), .int .i64 0] 119)).alloc (.cells #[.pointer (some ⟨w.heap.size + 1, 0, none⟩)] 121))) w.heap.size 66 #[.int .i64 0, .int .i64 0, .string ⟨#[]⟩, .bool false] :=
    ((Blk.new _ _ _).alloc _).alloc _
  have hq0 : Off [] w ((((w.alloc (.cells #[.int .i64 0, .int .i64 0, .string ⟨#[]⟩, .bool false] 66)).alloc (.cells #[.string (encS c a x l), .int .i64 0] 119)).alloc (.cells #[.pointer (some ⟨w.heap.size + 1, 0, none⟩)] 121))) :=
    (((Off.refl _ _).alloc _).alloc _).alloc _
  have HR0 := Lib.hid hr0
  have HZ0 := Lib.hid hz0
  have HQ0 := Lib.hid hq0
  clear hz0 hq0
  clear hr0 s0 l1 l2
  go_enter Try.func21, Try.ntmps21
  go_wp2_with (go_at_call 39; go_in)
  refine (rNum _ _ c _ _ hc (by omega) HR0.out).mono ?_
  rintro e w1 ⟨rfl, hr1, ho1⟩
  go_wp2_with fail
  refine (rNum _ _ a _ _ ha (by omega) hr1).mono ?_
  rintro e w2 ⟨rfl, hr2, ho2⟩
  go_wp2_with fail
  refine (rText _ _ 65536 x _ _ hx (by omega) (by omega) hr2).mono ?_
  rintro e w3 ⟨rfl, hr3, ho3⟩
  go_wp2_with fail
  refine (rFlag _ _ l _ hr3).mono ?_
  rintro e w4 ⟨rfl, hr4, ho4⟩
  go_wp2_with fail
  have hz4 := (((HZ0.out.off ho1 (by simp)).off ho2 (by simp)).off ho3 (by simp)).off ho4 (by simp)
  have hq4 : Off [] w w4 := (((HQ0.out.trans ho1 (by simp; omega)).trans ho2 (by simp; omega)).trans ho3 (by simp; omega)).trans ho4 (by simp; omega)
  have hcz := hz4.cell
  have hfz := hz4.frozen
  have hlz := hz4.lt
  refine (rEnd _ _ _ ⟨hr4.r.alloc _, hr4.b.alloc _⟩).mono ?_
  rintro e w5 ⟨rfl, rfl⟩
  go_wp2
  refine bodyPost_ret (v := .tuple #[.agg #[.int .i64 c, .int .i64 a, .string x, .bool l], .int .i64 0]) (by simp [results, Try.results21, go_sem, hcz, hlz]) rfl ⟨rfl, ?_⟩
  exact ((((hq4.setCell (.inl (Nat.le_refl _)) _).setCell (.inl (Nat.le_refl _)) _).setCell (.inl (Nat.le_refl _)) _).setCell (.inl (Nat.le_refl _)) _).alloc _
end Go.Proofs.Ytpaeihdkggbeoaa
