/-
  How the arguments lie in memory: a slice of ints (and what is alike for every slice of one-cell fields).
-/
import Derived.Test.YtfiigdgkgelbkaaDk9
import Derived.Deep.Slices
import Derived.Deep.Fields
import Derived.ChangeSame
import Derived.ProofKit
import Derived.ChangeSlices
namespace Go.Mb
open Go.RowKit Go.ChangeShapes Go.WideShapes Go.Deep
/-- one pick for each place -/
theorem pick_list {α : Type} {p : Nat → α → Prop} : ∀ n, (∀ i, i < n → ∃ y, p i y) → ∃ l : List α, l.length = n ∧ ∀ i y, l[i]? = some y → p i y
  | 0, _ => ⟨[], rfl, fun i y h => by simp at h⟩
  | n + 1, h => by
    obtain ⟨l, h1, h2⟩ := pick_list n (fun i hi => h i (by omega))
    obtain ⟨y, hy⟩ := h n (by omega)
    refine ⟨l ++ [y], by simp [h1], fun i z hz => ?_⟩
    rcases Nat.lt_trichotomy i n with h3 | h3 | h3
    · rw [List.getElem?_append_left (by omega)] at hz
      exact h2 i z hz
    · subst h3
      rw [List.getElem?_append_right (by omega), h1] at hz
      simp at hz
      subst hz
      exact hy
    · rw [List.getElem?_eq_none (by simp; omega)] at hz
      cases hz
theorem forall_of_get {α : Type} {l : List α} {q : α → Prop} (h : ∀ (i : Nat) y, l[i]? = some y → q y) : ∀ y ∈ l, q y := fun y hy => by
  obtain ⟨i, hi⟩ := List.mem_iff_getElem?.1 hy
  exact h i y hi
section
variable {H : Type} {enc : TypeId × Value → H} {P : Program} {w : World} {base : Nat} {spare : Nat → Bool} {held : Bool}
theorem open_slice_fields {t e : TypeId} {fs : Array Field} {fuel : Nat} {cs : List Value} {x : DataW H × List MemPlace} (ht : P.underlying t = some (.slice e)) (he : P.underlying e = some (.struct fs))
    (hone : oneCellFields P fs = true) (hC : P.cellsOf e = fs.size) (h : DataW.trod enc P w base spare held fuel t cs = some x) :
    cs = [.slice none 0 0] ∨
    ∃ (a : Addr) (len cap : Nat), cs = [.slice (some a) len cap] ∧ len ≤ cap ∧ cap ≤ maxLen ∧
      ∀ i, i < len → ∀ (j : Nat) (f : Field), fs[j]? = some f → ∃ (v : Value) (n : Nat) (y : DataW H × List MemPlace), w.cell? (a.add (i * fs.size + j)) = some v ∧ DataW.trod enc P w base spare held n f.type [v] = some y := by
  rcases open_slice ht h with h0 | ⟨a, len, cap, m, n, D, Pl, hcs, hb, hl, hm, hmm, hx, hi⟩
  · exact .inl h0.1
  · have hlm : len ≤ m := by rw [hmm]; split <;> omega
    refine .inr ⟨a, len, cap, hcs, hl, hm, fun i him => ?_⟩
    obtain ⟨cs', hc, ht'⟩ := hi i (by omega)
    rw [hC] at hc
    obtain ⟨ys, n', hn', hy, hlen, hyl, hf⟩ := DataW.trod_struct he ht'
    obtain ⟨_, hcl, hat⟩ := World.cells?_some hc
    simp only [Prod.mk.injEq] at hy
    intro j f hj
    obtain ⟨ho, hk⟩ := hone_of hone j f hj
    have hjl : j < fs.size := (Array.getElem?_eq_some_iff.1 hj).1
    have hcell := hat j hjl
    have hv : cs'[j]? = some (cs'[j]'(by omega)) := List.getElem?_eq_getElem (by omega)
    have h1 := hf j f hj
    rw [ho, hk] at h1
    have hone' : (cs'.drop j).take 1 = [cs'[j]'(by omega)] := by
      rw [List.drop_eq_getElem_cons (by omega)]
      rfl
    rw [hone'] at h1
    have hys : ys[j]? = some (ys[j]'(by omega)) := List.getElem?_eq_getElem (by omega)
    refine ⟨_, _, _, ?_, h1.trans hys⟩
    rw [← Go.Deep.add_add, hcell, hv]
end
/-- cells of an element at an address, as Rd wants them -/
theorem Rd.of_cells {k n cap : Nat} {w : World} {a : Addr} {xs : List (List Value)} (hn : xs.length = n) (hl : n ≤ cap) (hm : cap ≤ maxLen) (hk : 0 < k) (hw : ∀ x ∈ xs, x.length = k)
    (hc : ∀ i x, xs[i]? = some x → ∀ j u, x[j]? = some u → w.cell? (a.add (i * k + j)) = some u) : Rd k w.heap.size w (some a) n cap xs := by
  refine ⟨hn, hl, hm, hw, fun h0 => ?_⟩
  obtain ⟨b, off, spot⟩ := a
  have hx0 : xs[0]? = some (xs[0]'(by omega)) := List.getElem?_eq_getElem _
  have hlen : (xs[0]'(by omega)).length = k := hw _ (List.getElem_mem _)
  have hu0 : (xs[0]'(by omega))[0]? = some ((xs[0]'(by omega))[0]'(by omega)) := List.getElem?_eq_getElem _
  have h1 := hc 0 _ hx0 0 _ hu0
  have hspot : spot = none := by simpa [Addr.add] using World.cell?_spot h1
  subst hspot
  refine ⟨b, off, rfl, ?_, fun i x hx j u hu => ?_⟩
  · have h2 := h1
    rw [Addr.add_lit] at h2
    rcases Nat.lt_or_ge b w.heap.size with h3 | h3
    · exact h3
    · simp [World.cell?, Array.getElem?_eq_none h3] at h2
  · have := hc i x hx j u hu
    rw [Addr.add_lit] at this
    rw [Nat.add_assoc]
    exact this
end Go.Mb
namespace Go.Proofs.Ytfiigdgkgelbkaa
open Go.RowKit Go.Mb Go.ChangeShapes Go.WideShapes Go.Deep
section
variable {H : Type} {enc : TypeId × Value → H} {w : World} {base : Nat} {spare : Nat → Bool} {held : Bool}
theorem arg_ints {fuel : Nat} {v : Value} {x : DataW H × List MemPlace} (h : DataW.trod enc Try.prog w base spare held fuel 30 [v] = some x) :
    ∃ ao n cap l, v = .slice ao n cap ∧ RdN w.heap.size w ao n cap l := by
  rcases open_ints Try.underlying30 Try.underlying3 (by kernel_rfl) h with h0 | ⟨a, len, cap, zs, hcs, _, hl, hm, hz, _, hi, _⟩
  · exact ⟨none, 0, 0, [], by simpa using h0.1, rfl, Nat.le_refl _, Nat.zero_le _, by simp, fun h => absurd h (Nat.lt_irrefl _)⟩
  · have hlz : len ≤ zs.length := by rw [hz]; split <;> omega
    refine ⟨some a, len, cap, zs.take len, by simpa using hcs, Rd.of_cells (by simp; omega) hl hm (by decide) (by intro x hx; obtain ⟨y, _, rfl⟩ := List.mem_map.1 hx; rfl) (fun i x hx j u hu => ?_)⟩
    rw [List.getElem?_map] at hx
    obtain ⟨y, hy, rfl⟩ := Option.map_eq_some_iff.1 hx
    match j with
    | 0 =>
      simp at hu
      subst hu
      rw [List.getElem?_take] at hy
      split at hy
      · rename_i hil
        have := hi i (by omega)
        rw [Nat.mul_one, Nat.add_zero, this]
        simp [List.getD, hy]
      · cases hy
    | j + 1 => simp at hu
end
end Go.Proofs.Ytfiigdgkgelbkaa
