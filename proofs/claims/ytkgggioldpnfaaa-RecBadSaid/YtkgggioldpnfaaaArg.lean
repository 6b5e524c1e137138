/-
  How the arguments lie in memory: a slice of writes, a slice of commits, a state.
-/
import Derived.Test.YtkgggioldpnfaaaSto7
import Derived.Deep.Slices
import Derived.Deep.Fields
import Derived.ChangeSame
import Derived.ProofKit
namespace Go.Mb
open Go.RowKit Go.ChangeShapes Go.WideShapes Go.Deep
/-- one pick for each place -/
theorem pick_list {α : Type} {p : Nat → α → Prop} : ∀ n, (∀ i, i < n → ∃ y, p i y) → ∃ l : List α, l.length = n ∧ ∀ i y, l[i]? = some y → p i y
  | 0, _ => ⟨[], rfl, fun i y h => by simp at h⟩
  | n + 1, h => by
    obtain ⟨l, h1, h2⟩ := pick_list n (fun i hi => h i (by omega))
    obtain ⟨y, hy⟩ := h n (by omega)
    refine ⟨l ++ [y], by simp [h1], fun i z hz => ?_⟩
    rcases Nat.lt_trichotomy i n with h3 | h3 | h3
    · rw [List.getElem?_append_left (by omega)] at hz
      exact h2 i z hz
    · subst h3
      rw [List.getElem?_append_right (by omega), h1] at hz
      simp at hz
      subst hz
      exact hy
    · rw [List.getElem?_eq_none (by simp; omega)] at hz
      cases hz
theorem forall_of_get {α : Type} {l : List α} {q : α → Prop} (h : ∀ (i : Nat) y, l[i]? = some y → q y) : ∀ y ∈ l, q y := fun y hy => by
  obtain ⟨i, hi⟩ := List.mem_iff_getElem?.1 hy
  exact h i y hi
section
variable {H : Type} {enc : TypeId × Value → H} {P : Program} {w : World} {base : Nat} {spare : Nat → Bool} {held : Bool}
theorem open_slice_fields {t e : TypeId} {fs : Array Field} {fuel : Nat} {cs : List Value} {x : DataW H × List MemPlace} (ht : P.underlying t = some (.slice e)) (he : P.underlying e = some (.struct fs))
    (hone : oneCellFields P fs = true) (hC : P.cellsOf e = fs.size) (h : DataW.trod enc P w base spare held fuel t cs = some x) :
    cs = [.slice none 0 0] ∨
    ∃ (a : Addr) (len cap : Nat), cs = [.slice (some a) len cap] ∧ len ≤ cap ∧ cap ≤ maxLen ∧
      ∀ i, i < len → ∀ (j : Nat) (f : Field), fs[j]? = some f → ∃ (v : Value) (n : Nat) (y : DataW H × List MemPlace), w.cell? (a.add (i * fs.size + j)) = some v ∧ DataW.trod enc P w base spare held n f.type [v] = some y := by
  rcases open_slice ht h with h0 | ⟨a, len, cap, m, n, D, Pl, hcs, hb, hl, hm, hmm, hx, hi⟩
  · exact .inl h0.1
  · have hlm : len ≤ m := by rw [hmm]; split <;> omega
    refine .inr ⟨a, len, cap, hcs, hl, hm, fun i him => ?_⟩
    obtain ⟨cs', hc, ht'⟩ := hi i (by omega)
    rw [hC] at hc
    obtain ⟨ys, n', hn', hy, hlen, hyl, hf⟩ := DataW.trod_struct he ht'
    obtain ⟨_, hcl, hat⟩ := World.cells?_some hc
    simp only [Prod.mk.injEq] at hy
    intro j f hj
    obtain ⟨ho, hk⟩ := hone_of hone j f hj
    have hjl : j < fs.size := (Array.getElem?_eq_some_iff.1 hj).1
    have hcell := hat j hjl
    have hv : cs'[j]? = some (cs'[j]'(by omega)) := List.getElem?_eq_getElem (by omega)
    have h1 := hf j f hj
    rw [ho, hk] at h1
    have hone' : (cs'.drop j).take 1 = [cs'[j]'(by omega)] := by
      rw [List.drop_eq_getElem_cons (by omega)]
      rfl
    rw [hone'] at h1
    have hys : ys[j]? = some (ys[j]'(by omega)) := List.getElem?_eq_getElem (by omega)
    refine ⟨_, _, _, ?_, h1.trans hys⟩
    rw [← Go.Deep.add_add, hcell, hv]
end
/-- cells of an element at an address, as Rd wants them -/
theorem Rd.of_cells {k n cap : Nat} {w : World} {a : Addr} {xs : List (List Value)} (hn : xs.length = n) (hl : n ≤ cap) (hm : cap ≤ maxLen) (hk : 0 < k) (hw : ∀ x ∈ xs, x.length = k)
    (hc : ∀ i x, xs[i]? = some x → ∀ j u, x[j]? = some u → w.cell? (a.add (i * k + j)) = some u) : Rd k w.heap.size w (some a) n cap xs := by
  refine ⟨hn, hl, hm, hw, fun h0 => ?_⟩
  obtain ⟨b, off, spot⟩ := a
  have hx0 : xs[0]? = some (xs[0]'(by omega)) := List.getElem?_eq_getElem _
  have hlen : (xs[0]'(by omega)).length = k := hw _ (List.getElem_mem _)
  have hu0 : (xs[0]'(by omega))[0]? = some ((xs[0]'(by omega))[0]'(by omega)) := List.getElem?_eq_getElem _
  have h1 := hc 0 _ hx0 0 _ hu0
  have hspot : spot = none := by simpa [Addr.add] using World.cell?_spot h1
  subst hspot
  refine ⟨b, off, rfl, ?_, fun i x hx j u hu => ?_⟩
  · have h2 := h1
    rw [Addr.add_lit] at h2
    rcases Nat.lt_or_ge b w.heap.size with h3 | h3
    · exact h3
    · simp [World.cell?, Array.getElem?_eq_none h3] at h2
  · have := hc i x hx j u hu
    rw [Addr.add_lit] at this
    rw [Nat.add_assoc]
    exact this
end Go.Mb
namespace Go.Proofs.Ytkgggioldpnfaaa
open Go.RowKit Go.Mb Go.ChangeShapes Go.WideShapes Go.Deep
section
variable {H : Type} {enc : TypeId × Value → H} {w : World} {base : Nat} {spare : Nat → Bool} {held : Bool}
theorem arg_writes {fuel : Nat} {v : Value} {x : DataW H × List MemPlace} (h : DataW.trod enc Try.prog w base spare held fuel 22 [v] = some x) :
    ∃ ao n cap l, v = .slice ao n cap ∧ RdW w.heap.size w ao n cap l ∧ (ao = none → n = 0 ∧ cap = 0) := by
  rcases open_slice_fields Try.underlying22 Try.underlying31 (by kernel_rfl) (by kernel_rfl) h with h0 | ⟨a, len, cap, hcs, hl, hm, hi⟩
  · exact ⟨none, 0, 0, [], by simpa using h0, ⟨rfl, Nat.le_refl _, Nat.zero_le _, by simp, fun h => absurd h (Nat.lt_irrefl _)⟩, fun _ => ⟨rfl, rfl⟩⟩
  · obtain ⟨l, h1, h2⟩ := pick_list (α := Wr) (p := fun i y => ∀ j u, y.cells[j]? = some u → w.cell? (a.add (i * 3 + j)) = some u) len (fun i him => by
      obtain ⟨v0, n0, y0, c0, t0⟩ := hi i him 0 _ rfl
      obtain ⟨v1, n1, y1, c1, t1⟩ := hi i him 1 _ rfl
      obtain ⟨v2, n2, y2, c2, t2⟩ := hi i him 2 _ rfl
      obtain ⟨s0, e0, _, _⟩ := DataW.trod_string Try.underlying9 t0
      obtain ⟨s1, e1, _, _⟩ := DataW.trod_string Try.underlying9 t1
      obtain ⟨s2, e2, _⟩ := DataW.trod_bool Try.underlying4 t2
      cases e0; cases e1; cases e2
      refine ⟨⟨s0, s1, s2⟩, fun j u hu => ?_⟩
      match j with
      | 0 => cases hu; exact c0
      | 1 => cases hu; exact c1
      | 2 => cases hu; exact c2
      | j + 3 => simp [Wr.cells] at hu)
    refine ⟨some a, len, cap, l, by simpa using hcs, Rd.of_cells (by simp [h1]) hl hm (by decide) (by simp [Wr.cells]) (fun i x hx j u hu => ?_), fun e => nomatch e⟩
    rw [List.getElem?_map] at hx
    obtain ⟨y, hy, rfl⟩ := Option.map_eq_some_iff.1 hx
    exact h2 i y hy j u hu
theorem arg_coms {fuel : Nat} {v : Value} {x : DataW H × List MemPlace} (h : DataW.trod enc Try.prog w base spare held fuel 23 [v] = some x) :
    ∃ ao n cap l, v = .slice ao n cap ∧ RdC w.heap.size w ao n cap l ∧ (ao = none → n = 0 ∧ cap = 0) ∧ ∀ c ∈ l, c.ao = none → c.n = 0 ∧ c.cap = 0 := by
  rcases open_slice_fields Try.underlying23 Try.underlying28 (by kernel_rfl) (by kernel_rfl) h with h0 | ⟨a, len, cap, hcs, hl, hm, hi⟩
  · exact ⟨none, 0, 0, [], by simpa using h0, ⟨⟨rfl, Nat.le_refl _, Nat.zero_le _, by simp, fun h => absurd h (Nat.lt_irrefl _)⟩, by simp⟩, fun _ => ⟨rfl, rfl⟩, by simp⟩
  · obtain ⟨l, h1, h2⟩ := pick_list (α := Com) (p := fun i y => (∀ j u, y.cells[j]? = some u → w.cell? (a.add (i * 3 + j)) = some u) ∧ RdW w.heap.size w y.ao y.n y.cap y.ws ∧ (y.ao = none → y.n = 0 ∧ y.cap = 0)) len (fun i him => by
      obtain ⟨v0, n0, y0, c0, t0⟩ := hi i him 0 _ rfl
      obtain ⟨v1, n1, y1, c1, t1⟩ := hi i him 1 _ rfl
      obtain ⟨v2, n2, y2, c2, t2⟩ := hi i him 2 _ rfl
      obtain ⟨s0, e0, _, _⟩ := DataW.trod_int Try.underlying3 t0
      obtain ⟨s1, e1, _, _⟩ := DataW.trod_int Try.underlying3 t1
      obtain ⟨ao, n, cp, ws, rfl, hr, hn⟩ := arg_writes t2
      cases e0; cases e1
      refine ⟨⟨s0, s1, ao, n, cp, ws⟩, fun j u hu => ?_, hr, hn⟩
      match j with
      | 0 => cases hu; exact c0
      | 1 => cases hu; exact c1
      | 2 => cases hu; exact c2
      | j + 3 => simp [Com.cells] at hu)
    refine ⟨some a, len, cap, l, by simpa using hcs, ⟨Rd.of_cells (by simp [h1]) hl hm (by decide) (by simp [Com.cells]) (fun i x hx j u hu => ?_), forall_of_get fun i y hy => (h2 i y hy).2.1⟩, (fun e => nomatch e), forall_of_get fun i y hy => (h2 i y hy).2.2⟩
    rw [List.getElem?_map] at hx
    obtain ⟨y, hy, rfl⟩ := Option.map_eq_some_iff.1 hx
    exact (h2 i y hy).1 j u hu
end
end Go.Proofs.Ytkgggioldpnfaaa
