/-
  A region that draws its order, over the class of worlds in which nothing that was there has turned: reads, and calls that only make memory.
-/
import Derived.Test.YtfiigdgkgelbkaaBase
import Derived.BigQuiet
namespace Go.Mb
open Go.RowKit
/-- a world in which nothing of W has turned -/
structure In (W : World) where
  w : World
  ok : Below W.heap.size W w
instance (W : World) : Nonempty (In W) := ⟨⟨W, Below.refl _ _⟩⟩
theorem In.cell {W : World} {b o : Nat} {v : Value} (h : W.cell? ⟨b, o, none⟩ = some v) (s : In W) : s.w.cell? ⟨b, o, none⟩ = some v := by
  have hb : b < W.heap.size := by
    rcases Nat.lt_or_ge b W.heap.size with h1 | h1
    · exact h1
    · simp [World.cell?, Array.getElem?_eq_none h1] at h
  exact (s.ok.cell hb).trans h
theorem In.block {W : World} {k : Nat} (h : k < W.heap.size) (s : In W) : s.w.heap[k]? = W.heap[k]? := s.ok.block k h
abbrev InC (W : World) (w' : World) : Prop := ∃ s : In W, w' = s.w
theorem InC.of {W w' : World} (h : Below W.heap.size W w') : InC W w' := ⟨⟨w', h⟩, rfl⟩
/-- one walk, in the order of the text, in every world in which nothing of W has turned -/
theorem wp_region_in {P : Program} {id : Nat} {Q : Exit → Act → World → Prop} {a : Act} {w : World} {l : List Oper} (hm : P.follows .mixedOrders = true) (hB : Region.lexB .any l.toArray = true)
    (h : wpQuiet P l.toArray (fun w' => ∃ s : In w, w' = s.w) (fun a' => ∀ w', (∃ s : In w, w' = s.w) → Q .normal a' w') l a) : (Code.region id l.toArray true).wp P Q a w :=
  wp_region_quiet (C := fun w' => ∃ s : In w, w' = s.w) hm hB ⟨⟨_, Below.drew (Below.refl _ w)⟩, rfl⟩ (by simpa using h)
/-- a callee that only makes memory -/
theorem Calls.in_of {P : Program} {f : FuncId} {args : Array Value} {W : World} {s : In W} {v : Value}
    (h : Calls P f args s.w fun e w' => e = .returned v ∧ Below s.w.heap.size s.w w') : Calls P f args s.w fun e w'' => e = .returned v ∧ ∃ s' : In W, w'' = s'.w :=
  h.mono fun _ w' ⟨he, hm⟩ => ⟨he, ⟨w', s.ok.trans (hm.mono s.ok.size)⟩, rfl⟩
end Go.Mb
