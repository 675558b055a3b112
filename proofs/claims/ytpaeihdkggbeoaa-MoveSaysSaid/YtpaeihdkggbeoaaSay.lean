/- The walk of a direction's say: a message in frames. Conditions: a message of at most 65536 bytes, counts of at most 2^19. -/
import Derived.Test.YtpaeihdkggbeoaaWay
import Derived.Test.YtpaeihdkggbeoaaDecode
import Derived.Test.YtpaeihdkggbeoaaSend
import Derived.Test.YtpaeihdkggbeoaaTake
namespace Go.Proofs.Ytpaeihdkggbeoaa
open Go.RowKit Go.Op

/-- bytes of the next piece, and of its frame on the line -/
def chunk (size s : Nat) : Nat := min (size - s) 1024
def frameLen (size s : Nat) : Nat := 12 + ((Pl.num 0).length + (Pl.num s).length + (Pl.num (chunk size s)).length + chunk size s + 1)
/-- what a direction is behind a message, and whether the message came -/
def sayF : Nat → WayS → Nat → Nat → WayS × Bool
  | 0, a, _, _ => (a, true)
  | f + 1, a, size, s =>
    if a.ok (frameLen size s) then (if s + chunk size s < size then sayF f (a.add (frameLen size s)) size (s + chunk size s) else (a.add (frameLen size s), true))
    else (a.add (frameLen size s), false)
def sayS (a : WayS) (size : Nat) : WayS × Bool := sayF (size / 1024 + 1) a size 0

/-- the measure: what is left to be sent, off the memory -/
def outMu (g size : Nat) (w : World) : Nat :=
  match w.cell? ⟨g, 2, none⟩, w.cell? ⟨g, 1, none⟩ with
  | some (.int _ n), some (.bool b) => 2 * (size - n.toNat) + (if b then 0 else 1)
  | _, _ => 0
theorem outMu_eq {w : World} {gO gL gS cap : Nat} {cur : Array Value} {t : ByteArray} {b : Bool} {s a : Nat} (h : OutAt w gO gL gS cap cur t b s a) :
    outMu gS t.size w = 2 * (t.size - s) + (if b then 0 else 1) := by
  have h2 := h.s.cell 2
  have h1 := h.s.cell 1
  simp [outMu, h1, h2]

/-- the receiver, by how much has been sent -/
def InState (w : World) (gI gm gt : Nat) (msg : ByteArray) (b : Bool) (s : Nat) : Prop :=
  if b then (if s < msg.size then In1 w gI gm gt (msg.extract 0 s) else In2 w gI gm gt msg) else In0 w gI gm

/-- between two frames -/
structure SayAt (w0 w : World) (gW gO gL gS cap gI gm gt : Nat) (cur : Array Value) (x0 x y : WayS) (d back : Bool) (msg : ByteArray) (b : Bool) (s f i : Nat) : Prop where
  out : OutAt w gO gL gS cap cur msg b s s
  inn : InState w gI gm gt msg b s
  way : Blk w gW 49 (wayB back x y d)
  off : Off [gW] w0 w
  fit : x.Fit
  start : b = false → s = 0
  le : s ≤ msg.size
  wait : waitsB msg b s = true → s = 1024 * i ∧ msg.size < 1024 * (i + f) ∧ sayF f x msg.size s = sayS x0 msg.size
  done : waitsB msg b s = false → s = msg.size ∧ b = true ∧ (x, true) = sayS x0 msg.size
  cnt : i ≤ 65
  gtw : w0.heap.size ≤ gt
  msgs : x.msgs = x0.msgs + i
  bytes : x.bytes ≤ x0.bytes + 2000 * i

theorem encode0 (a : Nat) (s : ByteArray) (l : Bool) (w : World) (ha : a < 1099511627776) (hs : s.size < 1099511627776) :
    Calls Try.prog 20 #[.agg #[.int .i64 0, .int .i64 a, .string s, .bool l]] w (StrPost w (encB 0 a s l)) := encode_any 0 a s l w (by omega) ha hs
theorem decode0 (a : Nat) (x : ByteArray) (l : Bool) (w : World) (ha : a < 2097152) (hx : x.size ≤ 65536) :
    Calls Try.prog 21 #[.string ⟨(encB 0 a x l).toArray⟩] w fun e w' => e = .returned (.tuple #[.agg #[.int .i64 0, .int .i64 a, .string x, .bool l], .int .i64 0]) ∧ Off [] w w' := by
  rw [encS_eq]
  exact decode_any 0 a x l w (by omega) ha hx
theorem ack0 (gO gL gS cap : Nat) (cur : Array Value) (t : ByteArray) (b : Bool) (s a n : Nat) (N : Int) (w : World) (hN : N = (n : Int)) (ha : a ≤ n) (hn : n ≤ s) (hs : s < 1099511627776) (h : OutAt w gO gL gS cap cur t b s a) :
    Calls Try.prog 23 #[.pointer (some ⟨gO, 0, none⟩), .int .i64 0, .int .i64 N] w fun e w' => e = .returned (.int .i64 0) ∧ OutAt w' gO gL gS cap cur t b s n ∧ Off [gS] w w' := by
  subst hN
  exact ack_any gO gL gS cap cur t b s a n w ha hn hs h

/-- Take, whatever has come before -/
def TakenPost (w : World) (gI gm gt : Nat) (msg : ByteArray) (b : Bool) (s n : Nat) (e : Ending) (w' : World) : Prop :=
  (∃ N : Int, N = ((s + n : Nat) : Int) ∧ e = .returned (.tuple #[.int .i64 N, .int .i64 0])) ∧ ∃ gt', InState w' gI gm gt' msg true (s + n) ∧ Off (if b then [gI, gm, gt] else [gI, gm]) w w' ∧ (gt' = gt ∨ w.heap.size ≤ gt')
theorem extract_size (t : ByteArray) (a b : Nat) (hb : b ≤ t.size) (ha : a ≤ b) : (t.extract a b).size = b - a := by
  rw [ByteArray.size_extract]; omega
theorem extract_join (t : ByteArray) (s n : Nat) (_h : s + n ≤ t.size) : t.extract 0 s ++ t.extract s (s + n) = t.extract 0 (s + n) := by
  rw [ByteArray.extract_append_extract]
  congr 1 <;> omega
theorem extract_all (t : ByteArray) (n : Nat) (h : n = t.size) : t.extract 0 n = t := by
  subst h
  exact ByteArray.extract_zero_size
theorem take_any (gI gm gt : Nat) (msg : ByteArray) (b : Bool) (s n : Nat) (w : World) (hs : s + n ≤ msg.size) (hm : msg.size ≤ 65536) (hw : b = true → s < msg.size) (h0 : b = false → s = 0) (h : InState w gI gm gt msg b s) :
    Calls Try.prog 22 #[.pointer (some ⟨gI, 0, none⟩), .agg #[.int .i64 0, .int .i64 s, .string (msg.extract s (s + n)), .bool (decide (s + n = msg.size))]] w (TakenPost w gI gm gt msg b s n) := by
  have hxs : (msg.extract s (s + n)).size = n := by rw [extract_size _ _ _ hs (by omega)]; omega
  have fin : ∀ (gt' : Nat) (e : Ending) (w' : World) (N : Int), N = ((s + n : Nat) : Int) → (∀ x, x < w.heap.size → x ∈ [gI, gm, gt'] → x ∈ (if b then [gI, gm, gt] else [gI, gm])) → (gt' = gt ∨ w.heap.size ≤ gt') → TakePost w gI gm gt' (decide (s + n = msg.size)) (msg.extract 0 (s + n)) N e w' → TakenPost w gI gm gt msg b s n e w' := by
    rintro gt' e w' N hN hl hg ⟨he, ho, hi⟩
    refine ⟨⟨N, hN, he⟩, gt', ?_, ho.mono hl, hg⟩
    unfold InState
    rw [if_pos rfl]
    by_cases hl : s + n = msg.size
    · rw [if_neg (by omega)]
      simp only [hl, decide_true, if_true] at hi
      rw [extract_all _ _ rfl] at hi
      exact hi
    · rw [if_pos (by omega)]
      simp only [hl, decide_false] at hi
      exact hi
  cases b
  · have hs0 := h0 rfl
    subst hs0
    have h1 : In0 w gI gm := h
    have := take0 gI gm (msg.extract 0 (0 + n)) (decide (0 + n = msg.size)) w (by omega) h1
    refine this.mono fun e w' hp => fin _ e w' _ (by rw [hxs]; simp) (fun x hx hm => ?_) (.inr (by omega)) hp
    simp at hm ⊢
    omega
  · have h1 := h
    unfold InState at h1
    rw [if_pos rfl, if_pos (hw rfl)] at h1
    have ht : (msg.extract 0 s).size = s := by rw [extract_size _ _ _ (by omega) (by omega)]; omega
    have := take1 gI gm gt (msg.extract 0 s) (msg.extract s (s + n)) (decide (s + n = msg.size)) w (by omega) h1
    rw [ht, hxs, extract_join _ _ _ hs] at this
    exact this.mono fun e w' hp => fin _ e w' _ (by simp) (fun x _ hm => hm) (.inl rfl) hp

section
variable {w w' : World} {gI gm gt : Nat} {msg : ByteArray} {b : Bool} {s : Nat}
theorem InState.move (h : InState w gI gm gt msg b s) (h0 : In0 w gI gm → In0 w' gI gm) (h1 : ∀ t, In1 w gI gm gt t → In1 w' gI gm gt t) (h2 : In2 w gI gm gt msg → In2 w' gI gm gt msg) : InState w' gI gm gt msg b s := by
  unfold InState at *
  by_cases hb : b = true
  · rw [if_pos hb] at h ⊢
    by_cases hs : s < msg.size
    · rw [if_pos hs] at h ⊢
      exact h1 _ h
    · rw [if_neg hs] at h ⊢
      exact h2 h
  · rw [if_neg hb] at h ⊢
    exact h0 h
theorem InState.off0 (h : InState w gI gm gt msg b s) (ho : Off [] w w') : InState w' gI gm gt msg b s :=
  h.move (fun h => ⟨h.i.off ho (by simp), h.m.off ho (by simp)⟩) (fun _ h => ⟨h.i.off ho (by simp), h.m.off ho (by simp), h.t.off ho (by simp)⟩)
    (fun h => by obtain ⟨v, hv⟩ := h.i; exact ⟨⟨v, hv.off ho (by simp)⟩, h.m.off ho (by simp), h.t.off ho (by simp)⟩)
theorem InState.off1 (h : InState w gI gm gt msg b s) {g : Nat} {t : TypeId} {cs : Array Value} (ho : Off [g] w w') (hg : Blk w g t cs) (h1 : 88 ≠ t) (h2 : 105 ≠ t) : InState w' gI gm gt msg b s :=
  h.move (fun h => ⟨h.i.off ho (by simpa using h.i.ne_ hg h1), h.m.off ho (by simpa using (h.m.ne_ hg).symm)⟩)
    (fun _ h => ⟨h.i.off ho (by simpa using h.i.ne_ hg h1), h.m.off ho (by simpa using (h.m.ne_ hg).symm), h.t.off ho (by simpa using h.t.ne_ hg h2)⟩)
    (fun h => by obtain ⟨v, hv⟩ := h.i; exact ⟨⟨v, hv.off ho (by simpa using hv.ne_ hg h1)⟩, h.m.off ho (by simpa using (h.m.ne_ hg).symm), h.t.off ho (by simpa using h.t.ne_ hg h2)⟩)
/-- what Take leaves alone -/
theorem InState.keeps (h : InState w gI gm gt msg b s) (hs : b = true → s < msg.size) {g : Nat} {t : TypeId} {cs : Array Value} (ho : Off (if b then [gI, gm, gt] else [gI, gm]) w w') (hg : Blk w g t cs) (h1 : t ≠ 88) (h2 : t ≠ 105) : Blk w' g t cs := by
  unfold InState at h
  cases b
  · rw [if_neg (by simp)] at h ho
    exact hg.off ho (by simpa using ⟨hg.ne_ h.i h1, h.m.ne_ hg⟩)
  · rw [if_pos rfl] at h ho
    rw [if_pos (hs rfl)] at h
    exact hg.off ho (by simpa using ⟨hg.ne_ h.i h1, h.m.ne_ hg, hg.ne_ h.t h2⟩)
end
theorem OutAt.off0 {w w' : World} {gO gL gS cap : Nat} {cur : Array Value} {t : ByteArray} {b : Bool} {s a : Nat} (h : OutAt w gO gL gS cap cur t b s a) (ho : Off [] w w') : OutAt w' gO gL gS cap cur t b s a :=
  ⟨h.o.off ho (by simp), h.l.off ho (by simp), h.c, h.k, h.s.off ho (by simp)⟩
theorem OutAt.off1 {w w' : World} {gO gL gS cap g : Nat} {cur cs : Array Value} {t : ByteArray} {b : Bool} {s a : Nat} (h : OutAt w gO gL gS cap cur t b s a) (ho : Off [g] w w') (hg : Blk w g 49 cs) : OutAt w' gO gL gS cap cur t b s a :=
  ⟨h.o.off ho (by simpa using h.o.ne_ hg (by decide)), h.l.off ho (by simpa using h.l.ne_ hg (by decide)), h.c, h.k, h.s.off ho (by simpa using h.s.ne_ hg (by decide))⟩
theorem leftO (gO gL gS cap : Nat) (cur : Array Value) (t : ByteArray) (b : Bool) (s a : Nat) (w : World) (h : OutAt w gO gL gS cap cur t b s a) :
    Calls Try.prog 17 #[.pointer (some ⟨gO, 0, none⟩)] w fun e w' => e = .returned (.int .i64 (if waitsB t b s then 1 else 0)) ∧ Off [] w w' :=
  (left_any gO gL gS cap cur t b s a w h).mono fun _ _ ⟨h1, n, h2⟩ => ⟨h1, h2 ▸ (Off.refl _ _).drewN n⟩
theorem inTextO (gI gm gt : Nat) (t : ByteArray) (w : World) (h : In2 w gI gm gt t) :
    Calls Try.prog 24 #[.pointer (some ⟨gI, 0, none⟩), .int .i64 0] w fun e w' => e = .returned (.tuple #[.string t, .bool true]) ∧ Off [] w w' :=
  (inText_any gI gm gt t w h).mono fun _ _ ⟨h1, n, h2⟩ => ⟨h1, h2 ▸ (Off.refl _ _).drewN n⟩

theorem sayAt_start {w w3 : World} {gW gO gL gS cap gI gm : Nat} {cur : Array Value} {x y : WayS} {d back : Bool} {msg : ByteArray}
    (hO : OutAt w3 gO gL gS cap cur msg false 0 0) (hi : Blk w3 gI 88 #[.map (some gm), .slice none 0 0]) (hm : MapB w3 gm #[] 0) (hW : Blk w3 gW 49 (wayB back x y d)) (ho : Off [gW] w w3) (hf : x.Fit) :
    SayAt w w3 gW gO gL gS cap gI gm w.heap.size cur x x y d back msg false 0 (msg.size / 1024 + 1) 0 where
  out := hO
  inn := ⟨hi, hm⟩
  way := hW
  off := ho
  fit := hf
  start := fun _ => rfl
  le := Nat.zero_le _
  wait := fun _ => ⟨by omega, by omega, rfl⟩
  done := fun h => by
    simp [waitsB] at h
  cnt := by omega
  gtw := Nat.le_refl _
  msgs := by omega
  bytes := by omega

theorem enc_size (size s : Nat) (X : ByteArray) (l : Bool) (hX : X.size = chunk size s) : 12 + (ByteArray.mk (encB 0 s X l).toArray).size = frameLen size s := by
  have h1 : (flagS l).data.toList.length = 1 := by cases l <;> rfl
  rw [sizeMk]
  simp only [encB, textB, List.length_append, h1, len_data, frameLen, hX]
  omega
theorem frameLen_le (size s : Nat) (hs : s ≤ 65536) : frameLen size s ≤ 1100 := by
  have h0 := numLen (n := 0) (by omega)
  have h1 := numLen (n := s) (by omega)
  have h2 := numLen (n := chunk size s) (by unfold chunk; omega)
  have h3 : chunk size s ≤ 1024 := by unfold chunk; omega
  unfold frameLen
  omega
theorem wayB_blk {w : World} {gW : Nat} {x y : WayS} {d back : Bool} (h : Blk w gW 49 (wayB back x y d)) : ∃ cs, Blk w gW 49 cs := ⟨_, h⟩
theorem hway_ne {w : World} {gW gO gL gS cap : Nat} {cur cs : Array Value} {t : ByteArray} {b : Bool} {s a : Nat} (h : Blk w gW 49 cs) (ho : OutAt w gO gL gS cap cur t b s a) : gW ≠ gS := h.ne_ ho.s (by decide)
theorem waits_lt {t : ByteArray} {b : Bool} {s : Nat} (h : waitsB t b s = true) : b = true → s < t.size := by
  rintro rfl
  simpa [waitsB] using h
theorem sendN_chunk (t : ByteArray) (s : Nat) : sendN t s = chunk t.size s := rfl
section
variable {w wr : World} {gW gO gL gS cap gI gm gt : Nat} {cur : Array Value} {x0 x y : WayS} {d back : Bool} {msg : ByteArray} {b : Bool} {s f i : Nat}
theorem sayAt_no (h : SayAt w wr gW gO gL gS cap gI gm gt cur x0 x y d back msg b s f i) (hB : waitsB msg b s = true) (hok : x.ok (frameLen msg.size s) = false) :
    sayS x0 msg.size = (x.add (frameLen msg.size s), false) := by
  obtain ⟨h1, h2, h3⟩ := h.wait hB
  have hle := h.le
  obtain ⟨f', rfl⟩ : ∃ f', f = f' + 1 := ⟨f - 1, by omega⟩
  rw [← h3, sayF, if_neg (by rw [hok]; simp)]
theorem sayAt_next {w10 : World} {gt' : Nat} (h : SayAt w wr gW gO gL gS cap gI gm gt cur x0 x y d back msg b s f i) (hB : waitsB msg b s = true) (hm : msg.size ≤ 65536) (hok : x.ok (frameLen msg.size s) = true)
    (hO : OutAt w10 gO gL gS cap cur msg true (s + sendN msg s) (s + sendN msg s)) (hin : InState w10 gI gm gt' msg true (s + sendN msg s)) (hway : Blk w10 gW 49 (wayB back (x.add (frameLen msg.size s)) y d)) (hoff : Off [gW] w w10) (hgt : w.heap.size ≤ gt') :
    SayAt w w10 gW gO gL gS cap gI gm gt' cur x0 (x.add (frameLen msg.size s)) y d back msg true (s + sendN msg s) (f - 1) (i + 1) := by
  obtain ⟨h1, h2, h3⟩ := h.wait hB
  have hle := h.le
  have hfl := frameLen_le msg.size s (by omega)
  obtain ⟨f', rfl⟩ : ∃ f', f = f' + 1 := ⟨f - 1, by omega⟩
  rw [sayF, if_pos hok] at h3
  have hc : sendN msg s = chunk msg.size s := rfl
  have hc2 : chunk msg.size s = min (msg.size - s) 1024 := rfl
  refine ⟨hO, hin, hway, hoff, ⟨h.fit.c0, h.fit.c1, h.fit.f0, h.fit.f1⟩, fun h => Bool.noConfusion h, by omega, fun hw => ?_, fun hw => ?_, by omega, hgt, ?_, ?_⟩
  · have : s + sendN msg s < msg.size := by simpa [waitsB] using hw
    rw [if_pos (by omega)] at h3
    refine ⟨by omega, by simp; omega, ?_⟩
    simpa [hc] using h3
  · have : ¬ s + sendN msg s < msg.size := by simpa [waitsB] using hw
    rw [if_neg (by omega)] at h3
    exact ⟨by omega, rfl, h3⟩
  · have := h.msgs
    simp only [WayS.add]; omega
  · have := h.bytes
    simp only [WayS.add]; omega
theorem sayAt_mu {w10 : World} {gt' f' i' : Nat} {x' : WayS} (h : SayAt w wr gW gO gL gS cap gI gm gt cur x0 x y d back msg b s f i) (hB : waitsB msg b s = true) (h' : SayAt w w10 gW gO gL gS cap gI gm gt' cur x0 x' y d back msg true (s + sendN msg s) f' i') :
    outMu gS msg.size w10 < outMu gS msg.size wr := by
  rw [outMu_eq h.out, outMu_eq h'.out]
  have hle := h.le
  have hc : sendN msg s = min (msg.size - s) 1024 := rfl
  cases b
  · simp
    omega
  · have := waits_lt hB rfl
    simp
    omega
end
def SayPost (w : World) (gW : Nat) (x y : WayS) (d back : Bool) (msg : ByteArray) (e : Ending) (w' : World) : Prop :=
  e = .returned (.tuple #[.string (if (sayS x msg.size).2 then msg else ⟨#[]⟩), .bool (sayS x msg.size).2]) ∧ Blk w' gW 49 (wayB back (sayS x msg.size).1 y d) ∧ Off [gW] w w'
set_option maxRecDepth 100000 in
set_option maxHeartbeats 4000000 in
theorem say_any (gW o : Nat) (x y : WayS) (d back : Bool) (msg : ByteArray) (w : World) (ho : o = bo back) (hm : msg.size ≤ 65536) (hmsgs : x.msgs ≤ 524288) (hbytes : x.bytes ≤ 549755813888) (hf : x.Fit)
    (h : Blk w gW 49 (wayB back x y d)) : Calls Try.prog 12 #[.pointer (some ⟨gW, o, none⟩), .string msg] w (SayPost w gW x y d back msg) := by
  have HO := Lib.hid ho
  clear ho
  go_enter Try.func12, Try.ntmps12
  go_wp2_with fail
  refine (newOut_any _).mono ?_
  rintro e w1 ⟨gO, hgO, rfl, hO, ho1⟩
  go_wp2_with fail
  refine (newIn_ex _).mono ?_
  rintro e w2 ⟨gI, gm, hgI, hgm, rfl, hI, ho2⟩
  go_wp2_with fail
  refine (put_any gO msg _ hm (hO.off ho2 (by simp))).mono ?_
  rintro e w3 ⟨rfl, ho3, gL, gS, cap, cur, hgS, hOut⟩
  have z1 := ho1.size
  have z2 := ho2.size
  have hI3i := hI.i.off ho3 (by simp; exact (hI.i.ne_ (hO.off ho2 (by simp)) (by decide)))
  have hI3m := hI.m.off ho3 (by simp; exact (hI.m.ne_ (hO.off ho2 (by simp))).symm)
  have hW3 : Blk w3 gW 49 (wayB back x y d) := ((h.off ho1 (by simp)).off ho2 (by simp)).off ho3 (by simp; have := h.lt; omega)
  have ho3w : Off [gW] w w3 := ((ho1.trans_nil ho2).trans ho3 (by simp; omega)).mono (by simp)
  have hgS' : w.heap.size ≤ gS := by omega
  have hgI' : w.heap.size ≤ gI := by omega
  have hgm' : w.heap.size ≤ gm := by omega
  clear ho1 ho2 ho3 hO hI hgS hgI hgm z1 z2
  go_wp2_with fail
  go_loopw [] (fun wr => ∃ gt x' b s f i, SayAt w wr gW gO gL gS cap gI gm gt cur x x' y d back msg b s f i) (fun wr => outMu gS msg.size wr)
  case atStart =>
    exact ⟨w.heap.size, x, false, 0, msg.size / 1024 + 1, 0, sayAt_start hOut hI3i hI3m hW3 ho3w hf⟩
  case round =>
    obtain ⟨gt, x', b, s, f, i, hA⟩ := hrel
    have hout := hA.out
    have hinn := hA.inn
    have hway := hA.way
    have hoff := hA.off
    have hgtw := hA.gtw
    cases hB : waitsB msg b s
    · have hd := hA.done hB
      have hL := leftO gO gL gS cap cur msg b s s wr hout
      rw [hB] at hL
      have HL := Lib.hid hL
      have h2 : In2 wr gI gm gt msg := by
        have := hinn
        unfold InState at this
        rwa [if_pos hd.2.1, if_neg (by omega)] at this
      have HD := Lib.hid hd
      clear hd hL hB hA
      go_wp2_with fail
      refine HL.out.mono ?_
      rintro e w4 ⟨rfl, ho4⟩
      go_wp2_with fail
      refine (inTextO gI gm gt msg _ ⟨?_, h2.m.off ho4 (by simp), h2.t.off ho4 (by simp)⟩).mono ?_
      · obtain ⟨v, hv⟩ := h2.i
        exact ⟨v, hv.off ho4 (by simp)⟩
      rintro e w5 ⟨rfl, ho5⟩
      go_wp2_with fail
      go_ret2
      refine ⟨?_, ?_, ((hoff.trans_nil ho4).trans_nil ho5)⟩
      · rw [← HD.out.2.2]; rfl
      · rw [← HD.out.2.2]; exact (hway.off ho4 (by simp)).off ho5 (by simp)
    · have hd := hA.wait hB
      have hL := leftO gO gL gS cap cur msg b s s wr hout
      rw [hB] at hL
      have HL := Lib.hid hL
      have HD := Lib.hid hd
      have HB := Lib.hid hB
      have HA := Lib.hid hA
      have hle := hA.le
      have hsz : (msg.extract s (s + sendN msg s)).size = sendN msg s := by
        have : sendN msg s ≤ msg.size - s := by unfold sendN; omega
        rw [extract_size _ _ _ (by omega) (by omega)]; omega
      have hn1 : s + sendN msg s ≤ msg.size := by unfold sendN; omega
      have HSZ := Lib.hid hsz
      have hsz1 : (msg.extract s (s + sendN msg s)).size ≤ 1024 := by rw [hsz]; unfold sendN; omega
      have hmx : x'.msgs ≤ 1048576 := by have := hA.msgs; have := hA.cnt; omega
      have hbx : x'.bytes ≤ 1099511627776 := by have := hA.bytes; have := hA.cnt; omega
      clear hd hL hB hA hsz
      go_wp2_with fail
      refine HL.out.mono ?_
      rintro e w4 ⟨rfl, ho4⟩
      go_wp2_with fail
      refine (send_any gO gL gS cap cur msg b s _ hle hm HB.out (hout.off0 ho4)).mono ?_
      rintro e w5 ⟨rfl, hout5, ho5⟩
      go_wp2_with fail
      refine (encode0 _ _ _ _ (by omega) (by omega)).mono ?_
      rintro e w6 ⟨rfl, ho6_⟩
      have ho6 : Off [] w5 w6 := ((Off.refl _ _).alloc _).trans_nil ho6_
      clear ho6_
      go_wp2_with fail
      have hlen := enc_size msg.size s (msg.extract s (s + sendN msg s)) (decide (s + sendN msg s = msg.size)) HSZ.out
      have hfl := frameLen_le msg.size s (by omega)
      have hPs : (ByteArray.mk (encB 0 s (msg.extract s (s + sendN msg s)) (decide (s + sendN msg s = msg.size))).toArray).size ≤ 1048000 := by omega
      have hway6 := ((hway.off ho4 (by simp)).off ho5 (by simpa using hway_ne hway hout)).off ho6 (by simp)
      cases hok : x'.ok (12 + (ByteArray.mk (encB 0 s (msg.extract s (s + sendN msg s)) (decide (s + sendN msg s = msg.size))).toArray).size)
      · have hC := Lib.hid (wcarry_no gW o x' y d back _ w6 HO.out hPs hmx hbx (by exact HA.out.fit) hok hway6)
        have HOK := Lib.hid hok
        have HLEN := Lib.hid hlen
        clear hok hlen
        refine hC.out.mono ?_
        rintro e w7 ⟨rfl, hway7, ho7⟩
        go_wp2_with fail
        go_ret2
        refine ⟨?_, ?_, (((hoff.trans_nil ho4).trans ho5 (by simp; omega)).trans_nil ho6).trans ho7 (by simp)⟩
        · rw [sayAt_no HA.out HB.out (by rw [← HLEN.out]; exact HOK.out)]; rfl
        · rw [sayAt_no HA.out HB.out (by rw [← HLEN.out]; exact HOK.out), ← HLEN.out]; exact hway7
      · have hC := Lib.hid (wcarry_yes gW o x' y d back _ w6 HO.out hPs hmx hbx (by exact HA.out.fit) hok hway6)
        have HOK := Lib.hid hok
        have HLEN := Lib.hid hlen
        clear hok hlen
        refine hC.out.mono ?_
        rintro e w7 ⟨rfl, hway7, ho7⟩
        go_wp2_with fail
        refine (decode0 _ _ _ _ (by omega) (by omega)).mono ?_
        rintro e w8 ⟨rfl, ho8⟩
        go_wp2_with fail
        have hinn8 := (((((hinn.off0 ho4).off1 ho5 (hout.off0 ho4).s (by decide) (by decide)).off0 ho6).off1 ho7 hway6 (by decide) (by decide)).off0 ho8)
        refine (take_any gI gm gt msg b s (sendN msg s) _ hn1 hm (waits_lt HB.out) HA.out.start (hinn8.off0 ((Off.refl _ _).alloc _))).mono ?_
        rintro e w9 ⟨⟨N, hN, rfl⟩, gt', hin9, ho9_, hgt'⟩
        have ho9 := ((Off.refl (if b then [gI, gm, gt] else [gI, gm]) w8).alloc _).trans ho9_ (fun _ _ h => h)
        have hgt2 : w.heap.size ≤ gt' := by have := hoff.size; have := ho4.size; have := ho5.size; have := ho6.size; have := ho7.size; have := ho8.size; rcases hgt' with h | h; omega; simp at h; omega
        have HN := Lib.hid hN
        clear hN
        go_wp2_with fail
        have hkp : ∀ {g : Nat} {t : TypeId} {cs : Array Value}, Blk w8 g t cs → t ≠ 88 → t ≠ 105 → Blk w9 g t cs := fun hb h1 h2 => hinn8.keeps (waits_lt HB.out) ho9 hb h1 h2
        have hout8 := ((hout5.off0 ho6).off1 ho7 hway6).off0 ho8
        have hout9 : OutAt w9 gO gL gS cap cur msg true (s + sendN msg s) s := ⟨hkp hout8.o (by decide) (by decide), hkp hout8.l (by decide) (by decide), hout8.c, hout8.k, hkp hout8.s (by decide) (by decide)⟩
        have hway9 := hkp (hway7.off ho8 (by simp)) (by decide) (by decide)
        have hoff9 : Off [gW] w w9 := (((((hoff.trans_nil ho4).trans ho5 (by simp; omega)).trans_nil ho6).trans ho7 (by simp)).trans_nil ho8).trans ho9 (by intro z hz hm; cases b <;> simp at hm <;> omega)
        have HK := Lib.hid (And.intro hin9 (And.intro hway9 (And.intro hoff9 hgt2)))
        clear hkp ho9 ho9_ hin9 hway9 hoff9 hgt2 hgt' hinn8 hway7 hway6 ho4 ho5 ho6 ho7 ho8 hout8 hout5 hout hinn hway hoff
        refine (ack0 gO gL gS cap cur msg true (s + sendN msg s) s (s + sendN msg s) N w9 HN.out (by omega) (by omega) (by omega) hout9).mono ?_
        rintro e w10 ⟨rfl, hout10, ho10⟩
        go_wp2_with fail
        obtain ⟨hin9, hway9, hoff9, hgt2⟩ := HK.out
        have hS10 := hout9.s
        have hin10 := hin9.off1 ho10 hS10 (by decide) (by decide)
        have hway10 := hway9.off ho10 (by simpa using hway_ne hway9 hout9)
        have hoff10 : Off [gW] w w10 := hoff9.trans ho10 (by simp; omega)
        rw [HLEN.out] at hway10
        have hnx := sayAt_next HA.out HB.out hm (by rw [← HLEN.out]; exact HOK.out) hout10 hin10 hway10 hoff10 hgt2
        exact ⟨⟨_, _, _, _, _, _, hnx⟩, sayAt_mu HA.out HB.out hnx⟩
end Go.Proofs.Ytpaeihdkggbeoaa
