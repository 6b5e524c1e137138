/-
  Files by their names: a list in order of the names, and the datum that a map with these files reads as. No walk here.
-/
import Derived.Test.YtfiigdgkgelbkaaOrd
import Derived.Maps.Ext
import Derived.Maps.OwnSet
namespace Go.Mb
open Go.Maps
/-- a file: its name, its bytes, how many of them are safe -/
structure Fl where
  name : ByteArray
  data : ByteArray
  safe : Int
def keyL (k : ByteArray) : Lit := .string k.data.toList
def Fl.val (f : Fl) : DataW Unit := .agg [.lit (.string f.data.data.toList), .lit (.int .i64 f.safe)]
def Fl.lit (f : Fl) : Lit × DataW Unit := (keyL f.name, f.val)
def flsD (fs : List Fl) : DataW Unit := .map (fs.map Fl.lit)
def SrtF (fs : List Fl) : Prop := fs.Pairwise fun a b => ltK a.name b.name = true
def lookF (fs : List Fl) (k : ByteArray) : Option Fl := fs.find? fun f => decide (f.name = k)
def insF (f : Fl) : List Fl → List Fl
  | [] => [f]
  | y :: r => if ltK f.name y.name then f :: y :: r else y :: insF f r
def delF (fs : List Fl) (k : ByteArray) : List Fl := fs.filter fun f => !decide (f.name = k)
def putF (fs : List Fl) (f : Fl) : List Fl := insF f (delF fs f.name)
/-- how a file's value reads -/
def fileR (v : Value) : Option (DataW Unit × List MemPlace) := match v with
  | .agg cs => match cs.toList with
    | [.string s, .int k n] => if k = .i64 then some (.agg [.lit (.string s.data.toList), .lit (.int k n)], []) else none
    | _ => none
  | _ => none
theorem bytes_inj {a b : ByteArray} (h : a.data.toList = b.data.toList) : a = b := toList_inj (by rw [Lib.toList_data, Lib.toList_data]; exact h)
theorem fileR_mk (s : ByteArray) (n : Int) : fileR (.agg #[.string s, .int .i64 n]) = some (.agg [.lit (.string s.data.toList), .lit (.int .i64 n)], []) := rfl
theorem fileR_inv {v : Value} {z : DataW Unit × List MemPlace} (h : fileR v = some z) : ∃ s n, v = .agg #[.string s, .int .i64 n] ∧ z = (.agg [.lit (.string s.data.toList), .lit (.int .i64 n)], []) := by
  unfold fileR at h
  split at h
  · rename_i cs
    split at h
    · rename_i s k n hcs
      split at h
      · rename_i hk
        subst hk
        cases h
        exact ⟨s, n, by rw [← hcs], rfl⟩
      · cases h
    · cases h
  · cases h
theorem fileR_val {v : Value} {f : Fl} {ps : List MemPlace} (h : fileR v = some (f.val, ps)) : v = .agg #[.string f.data, .int .i64 f.safe] := by
  obtain ⟨s, n, rfl, hz⟩ := fileR_inv h
  simp [Fl.val] at hz
  obtain ⟨⟨h1, h2⟩, _⟩ := hz
  rw [bytes_inj (a := f.data) (b := s) (by first | exact h1 | (rw [h1])), h2]
theorem before_eq : ∀ a b : List UInt8, bytesBefore a b = Op.bytesLess a b
  | [], [] => rfl
  | [], _ :: _ => rfl
  | _ :: _, [] => rfl
  | x :: a, y :: b => by unfold bytesBefore Op.bytesLess; rw [before_eq a b]
theorem keyL_before (a b : ByteArray) : (keyL a).before (keyL b) = ltK a b := by
  show bytesBefore _ _ = _
  rw [before_eq]; unfold ltK; rw [Lib.toList_data, Lib.toList_data]
theorem keyL_same (a b : ByteArray) : (keyL a).sameKey (keyL b) = decide (a = b) := by
  show (a.data.toList == b.data.toList) = _
  by_cases h : a = b
  · subst h; simp
  · have : a.data.toList ≠ b.data.toList := fun e => h (bytes_inj e)
    rw [decide_eq_false h]
    exact beq_eq_false_iff_ne.2 this
theorem keyL_key (a : ByteArray) : WideAt.IsKeyLit (keyL a) := trivial
theorem flsD_find (fs : List Fl) (k : ByteArray) : (fs.map Fl.lit).find? (fun p => p.1.sameKey (keyL k)) = (lookF fs k).map Fl.lit := by
  unfold lookF
  rw [List.find?_map]
  congr 2
  funext f
  exact keyL_same f.name k
theorem flsD_has (fs : List Fl) (k : ByteArray) : has (flsD fs) (keyL k) = (lookF fs k).isSome := by
  show (fs.map Fl.lit).any _ = _
  have h := flsD_find fs k
  rw [List.any_eq_not_all_not]
  cases hl : lookF fs k with
  | none =>
    rw [hl] at h
    simp only [Option.map_none, List.find?_eq_none] at h
    simp only [Option.isSome_none, Bool.not_eq_eq_eq_not, Bool.not_false, List.all_eq_true]
    intro p hp
    simpa using h p hp
  | some f =>
    rw [hl] at h
    have h1 := List.mem_of_find?_eq_some h
    have h2 := List.find?_some h
    simp only [Option.isSome_some, Bool.not_eq_eq_eq_not, Bool.not_true]
    rw [← Bool.not_eq_true, List.all_eq_true]
    intro hc
    have := hc _ h1
    rw [h2] at this
    cases this
theorem flsD_at (fs : List Fl) (k : ByteArray) (z : DataW Unit) : (flsD fs).atKey (keyL k) z = match lookF fs k with | none => z | some f => f.val := by
  unfold DataW.atKey flsD
  simp only
  rw [flsD_find]
  cases lookF fs k <;> rfl
theorem delF_lit (fs : List Fl) (k : ByteArray) : (fs.map Fl.lit).filter (fun p => !p.1.sameKey (keyL k)) = (delF fs k).map Fl.lit := by
  unfold delF
  rw [List.filter_map]
  congr 2
  funext f
  show (!(keyL f.name).sameKey (keyL k)) = _
  rw [keyL_same]
theorem insF_lit (f : Fl) : ∀ fs : List Fl, DataW.insert f.lit (fs.map Fl.lit) = (insF f fs).map Fl.lit
  | [] => rfl
  | y :: r => by
    show (if (keyL f.name).before (keyL y.name) then _ else _) = _
    rw [keyL_before]
    unfold insF
    split
    · rfl
    · rw [List.map_cons, ← insF_lit f r]
      first | rfl | done
theorem flsD_del (fs : List Fl) (k : ByteArray) : (flsD fs).del (keyL k) = flsD (delF fs k) := by
  show DataW.map _ = _
  rw [delF_lit]; rfl
theorem flsD_put (fs : List Fl) (f : Fl) : (flsD fs).put (keyL f.name) f.val = flsD (putF fs f) := by
  show DataW.map (DataW.insert f.lit _) = _
  rw [delF_lit, insF_lit]; rfl
theorem SrtF.del {fs : List Fl} (h : SrtF fs) (k : ByteArray) : SrtF (delF fs k) := h.filter _
theorem insF_mem {f x : Fl} : ∀ {fs : List Fl}, x ∈ insF f fs ↔ x = f ∨ x ∈ fs
  | [] => by simp [insF]
  | y :: r => by
    unfold insF
    split
    · simp
    · rw [List.mem_cons, insF_mem, List.mem_cons]
      constructor
      · rintro (h | h | h); exact .inr (.inl h); exact .inl h; exact .inr (.inr h)
      · rintro (h | h | h); exact .inr (.inl h); exact .inl h; exact .inr (.inr h)
theorem insF_srt {f : Fl} : ∀ {fs : List Fl}, SrtF fs → (∀ x ∈ fs, x.name ≠ f.name) → SrtF (insF f fs)
  | [], _, _ => List.pairwise_singleton _ _
  | y :: r, h, hne => by
    obtain ⟨h1, h2⟩ := List.pairwise_cons.1 h
    unfold insF
    split
    · rename_i hlt
      refine List.pairwise_cons.2 ⟨fun x hx => ?_, h⟩
      rcases List.mem_cons.1 hx with rfl | hx
      · exact hlt
      · exact ltK_trans hlt (h1 x hx)
    · rename_i hlt
      refine List.pairwise_cons.2 ⟨fun x hx => ?_, insF_srt h2 fun x hx => hne x (List.mem_cons_of_mem _ hx)⟩
      rcases insF_mem.1 hx with rfl | hx
      · rcases ltK_total y.name x.name with h3 | h3 | h3
        · exact h3
        · exact absurd h3 (hne y (List.mem_cons_self ..))
        · exact absurd h3 hlt
      · exact h1 x hx
theorem delF_ne {fs : List Fl} {k : ByteArray} : ∀ x ∈ delF fs k, x.name ≠ k := fun x hx => by simpa using (List.mem_filter.1 hx).2
theorem SrtF.put {fs : List Fl} (h : SrtF fs) (f : Fl) : SrtF (putF fs f) := insF_srt (h.del _) delF_ne
theorem putF_mem {fs : List Fl} {f x : Fl} : x ∈ putF fs f ↔ x = f ∨ (x ∈ fs ∧ x.name ≠ f.name) := by
  unfold putF
  rw [insF_mem]
  unfold delF
  rw [List.mem_filter]
  simp
theorem lookF_some {fs : List Fl} {k : ByteArray} {f : Fl} (h : lookF fs k = some f) : f ∈ fs ∧ f.name = k := by
  unfold lookF at h
  exact ⟨List.mem_of_find?_eq_some h, by simpa using List.find?_some h⟩
theorem lookF_none {fs : List Fl} {k : ByteArray} (h : lookF fs k = none) : ∀ y ∈ fs, y.name ≠ k := by
  unfold lookF at h
  intro y hy
  simpa using List.find?_eq_none.1 h y hy
theorem srtF_uniq {fs : List Fl} (h : SrtF fs) {a b : Fl} (ha : a ∈ fs) (hb : b ∈ fs) (e : a.name = b.name) : a = b := by
  induction fs with
  | nil => cases ha
  | cons y r ih =>
    obtain ⟨h1, h2⟩ := List.pairwise_cons.1 h
    have hlt : ∀ x ∈ r, x.name ≠ y.name := fun x hx e => by have := h1 x hx; rw [e, ltK_irrefl] at this; cases this
    rcases List.mem_cons.1 ha with rfl | ha' <;> rcases List.mem_cons.1 hb with rfl | hb'
    · rfl
    · exact absurd e.symm (hlt b hb')
    · exact absurd e (hlt a ha')
    · exact ih h2 ha' hb'
theorem lookF_of_mem {fs : List Fl} (h : SrtF fs) {f : Fl} (hf : f ∈ fs) : lookF fs f.name = some f := by
  cases hl : lookF fs f.name with
  | none => exact absurd rfl (lookF_none hl f hf)
  | some g => obtain ⟨h1, h2⟩ := lookF_some hl; rw [srtF_uniq h h1 hf h2]
/-- how many bytes all files have -/
def sumF (fs : List Fl) : Nat := (fs.map fun f => f.data.size).sum
end Go.Mb
