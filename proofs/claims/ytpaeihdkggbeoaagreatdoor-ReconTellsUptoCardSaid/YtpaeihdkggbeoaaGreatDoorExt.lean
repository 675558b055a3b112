/- A region that draws its order and whose callees make memory: the lexical walk in the class of worlds that extend one world. Conditions: what each lemma states. -/
import Derived.Test.YtpaeihdkggbeoaaGreatDoorMem
import Derived.Deep.Quiet
import Derived.BigQuiet
namespace Go.Proofs.YtpaeihdkggbeoaaGreatDoor
open Go.RowKit Go.Op

open Classical in
/-- a world that extends W: x itself if it does, else W -/
noncomputable def ext (W x : World) : World := if Off [] W x then x else W
theorem ext_off (W x : World) : Off [] W (ext W x) := by
  unfold ext
  split
  · assumption
  · exact Off.refl _ _
theorem ext_of {W x : World} (h : Off [] W x) : ext W x = x := by unfold ext; rw [if_pos h]
theorem ext_cell {W : World} {p : Addr} (hp : p.block < W.heap.size) (x : World) : (ext W x).cell? p = W.cell? p := (ext_off W x).cell hp (by simp)
theorem wp_region_ext {P : Program} {id : Nat} {Q : Exit → Act → World → Prop} {a : Act} {W : World} {l : List Oper} (hm : P.follows .mixedOrders = true) (hB : Region.lexB .any l.toArray = true)
    (h : wpQuiet P l.toArray (fun w' => ∃ x, w' = ext W x) (fun a' => ∀ w', (∃ x, w' = ext W x) → Q .normal a' w') l a) : (Code.region id l.toArray true).wp P Q a W :=
  wp_region_quiet (C := fun w' => ∃ x, w' = ext W x) hm hB ⟨W.drew, (ext_of ((Off.refl _ _).drew)).symm⟩ (by simpa using h)
theorem Calls.ext_of {P : Program} {f : FuncId} {args : Array Value} {W x : World} {v : Value} (h : Calls P f args (ext W x) fun e w' => e = .returned v ∧ Off [] (ext W x) w') :
    Calls P f args (ext W x) fun e w'' => e = .returned v ∧ ∃ y, w'' = ext W y :=
  h.mono fun _ w' ⟨he, ho⟩ => ⟨he, w', (Go.Proofs.YtpaeihdkggbeoaaGreatDoor.ext_of ((ext_off W x).trans_nil ho)).symm⟩
theorem Calls.ext_same {P : Program} {f : FuncId} {args : Array Value} {W x : World} {v : Value} (h : Calls P f args (ext W x) fun e w' => e = .returned v ∧ ext W x = w') :
    Calls P f args (ext W x) fun e w'' => e = .returned v ∧ ∃ y, w'' = ext W y :=
  h.mono fun _ _ ⟨he, ho⟩ => ⟨he, x, ho.symm⟩
end Go.Proofs.YtpaeihdkggbeoaaGreatDoor
