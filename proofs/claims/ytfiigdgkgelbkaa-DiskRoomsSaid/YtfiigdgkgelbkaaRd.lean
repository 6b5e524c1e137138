/-
  A slice that came in, of elements of k cells each: how it lies in memory.
-/
import Derived.Test.YtfiigdgkgelbkaaBase
namespace Go.Mb
open Go.RowKit

/-- the slice value (ao, n, cap) reads in w as the elements xs, each of k cells; its block lies below B -/
structure Rd (k B : Nat) (w : World) (ao : Option Addr) (n cap : Nat) (xs : List (List Value)) : Prop where
  len : xs.length = n
  le : n ≤ cap
  max : cap ≤ maxLen
  wide : ∀ x ∈ xs, x.length = k
  cells : 0 < n → ∃ b off, ao = some ⟨b, off, none⟩ ∧ b < B ∧ ∀ i x, xs[i]? = some x → ∀ j u, x[j]? = some u → w.cell? ⟨b, off + i * k + j, none⟩ = some u

theorem Rd.below {k B : Nat} {w w' : World} {ao : Option Addr} {n cap : Nat} {xs : List (List Value)} (h : Rd k B w ao n cap xs) (hb : Below B w w') : Rd k B w' ao n cap xs :=
  ⟨h.len, h.le, h.max, h.wide, fun hn => by
    obtain ⟨b, off, e, hlt, hc⟩ := h.cells hn
    exact ⟨b, off, e, hlt, fun i x hx j u hu => (hb.cell hlt).trans (hc i x hx j u hu)⟩⟩
theorem Rd.mono {k B B' : Nat} {w : World} {ao : Option Addr} {n cap : Nat} {xs : List (List Value)} (h : Rd k B w ao n cap xs) (hb : B ≤ B') : Rd k B' w ao n cap xs :=
  ⟨h.len, h.le, h.max, h.wide, fun hn => by
    obtain ⟨b, off, e, hlt, hc⟩ := h.cells hn
    exact ⟨b, off, e, Nat.lt_of_lt_of_le hlt hb, hc⟩⟩

theorem Rd.drewN {k B : Nat} {w : World} {ao : Option Addr} {n cap : Nat} {xs : List (List Value)} (h : Rd k B w ao n cap xs) (q : Nat) : Rd k B (w.drewN q) ao n cap xs := ⟨h.len, h.le, h.max, h.wide, h.cells⟩
theorem Rd.drew {k B : Nat} {w : World} {ao : Option Addr} {n cap : Nat} {xs : List (List Value)} (h : Rd k B w ao n cap xs) : Rd k B w.drew ao n cap xs := ⟨h.len, h.le, h.max, h.wide, h.cells⟩

/-- a write: key, value, gone -/
structure Wr where
  key : ByteArray
  val : ByteArray
  gone : Bool
def Wr.cells (x : Wr) : List Value := [.string x.key, .string x.val, .bool x.gone]
abbrev RdW (B : Nat) (w : World) (ao : Option Addr) (n cap : Nat) (l : List Wr) : Prop := Rd 3 B w ao n cap (l.map Wr.cells)

theorem RdW.at_ {B : Nat} {w : World} {ao : Option Addr} {n cap : Nat} {l : List Wr} (h : RdW B w ao n cap l) {i : Nat} {x : Wr} (hx : l[i]? = some x) {b off : Nat} (e : ao = some ⟨b, off, none⟩) :
    w.cell? ⟨b, off + i * 3, none⟩ = some (.string x.key) ∧ w.cell? ⟨b, off + i * 3 + 1, none⟩ = some (.string x.val) ∧ w.cell? ⟨b, off + i * 3 + 2, none⟩ = some (.bool x.gone) := by
  have hi : i < l.length := (List.getElem?_eq_some_iff.1 hx).1
  obtain ⟨b', off', e', _, hc⟩ := h.cells (by have := h.len; simp at this; omega)
  rw [e] at e'
  cases e'
  have hm : (l.map Wr.cells)[i]? = some x.cells := by simp [hx]
  exact ⟨hc i _ hm 0 _ rfl, hc i _ hm 1 _ rfl, hc i _ hm 2 _ rfl⟩
end Go.Mb
namespace Go.Mb
open Go.RowKit

theorem flat_get {α : Type} (k : Nat) : ∀ (ls : List (List α)), (∀ x ∈ ls, x.length = k) → ∀ i x, ls[i]? = some x → ∀ j u, x[j]? = some u → ls.flatten[i * k + j]? = some u
  | [], _, i, x, hx, _, _, _ => by simp at hx
  | y :: ls, h, 0, x, hx, j, u, hu => by
    simp at hx
    subst hx
    have hj : j < y.length := (List.getElem?_eq_some_iff.1 hu).1
    simp [List.getElem?_append_left hj, hu]
  | y :: ls, h, i + 1, x, hx, j, u, hu => by
    have hy : y.length = k := h y (by simp)
    have ih := flat_get k ls (fun z hz => h z (by simp [hz])) i x (by simpa using hx) j u hu
    rw [List.flatten_cons, List.getElem?_append_right (by rw [hy, Nat.succ_mul]; omega), hy]
    rw [show (i + 1) * k + j - k = i * k + j by rw [Nat.succ_mul]; omega]
    exact ih
theorem flat_length {α : Type} (k : Nat) : ∀ (ls : List (List α)), (∀ x ∈ ls, x.length = k) → ls.flatten.length = ls.length * k
  | [], _ => by simp
  | y :: ls, h => by
    rw [List.flatten_cons, List.length_append, flat_length k ls (fun z hz => h z (by simp [hz])), h y (by simp), List.length_cons, Nat.succ_mul]; omega

/-- an owned row, seen as a slice that reads -/
theorem Rd.of_own {w : World} {base : Nat} {e : TypeId} {k : Nat} {v : Value} {n : Nat} {ls : List (List Value)} (h : w.ownsRow base e k v n ls.flatten) (hk : ∀ x ∈ ls, x.length = k) (hn : ls.length = n) :
    ∃ ao cap, v = .slice ao n cap ∧ Rd k w.heap.size w ao n cap ls ∧ (ao = none → n = 0 ∧ cap = 0) := by
  rcases h.2 with ⟨rfl, rfl⟩ | ⟨g, cap, cur, rfl, hb, hg, hnc, hcm, hcs, htake⟩
  · exact ⟨none, 0, rfl, ⟨hn, Nat.le_refl _, Nat.zero_le _, hk, fun h0 => absurd h0 (Nat.lt_irrefl _)⟩, fun _ => ⟨rfl, rfl⟩⟩
  · refine ⟨some ⟨g, 0, none⟩, cap, rfl, ⟨hn, hnc, hcm, hk, fun _ => ⟨g, 0, rfl, (Array.getElem?_eq_some_iff.1 hg).1, fun i x hx j u hu => ?_⟩⟩, fun e => nomatch e⟩
    have h1 := flat_get k ls hk i x hx j u hu
    have h2 := h.cells (g := g) rfl (i * k + j) u h1
    rw [Addr.add_lit] at h2
    rw [Nat.add_assoc]
    exact h2
theorem Rd.all {k B : Nat} {w : World} {ao : Option Addr} {n cap : Nat} {ls : List (List Value)} (h : Rd k B w ao n cap ls) {b off : Nat} (e : ao = some ⟨b, off, none⟩) :
    ∀ j u, ls.flatten[j]? = some u → w.cell? ⟨b, off + j, none⟩ = some u := by
  intro j u hu
  have hj : j < ls.flatten.length := (List.getElem?_eq_some_iff.1 hu).1
  rw [flat_length k ls h.wide] at hj
  have hk0 : 0 < k := by
    rcases Nat.eq_zero_or_pos k with h0 | h0
    · subst h0; simp at hj
    · exact h0
  have hi : j / k < ls.length := by rw [Nat.div_lt_iff_lt_mul hk0]; exact hj
  obtain ⟨b', off', e', _, hc⟩ := h.cells (by rw [← h.len]; exact Nat.lt_of_le_of_lt (Nat.zero_le _) hi)
  rw [e] at e'
  cases e'
  have hx : ls[j / k]? = some ls[j / k] := List.getElem?_eq_getElem hi
  have hw : (ls[j / k]).length = k := h.wide _ (List.getElem_mem hi)
  have hm : j % k < k := Nat.mod_lt _ hk0
  have hy : (ls[j / k])[j % k]? = some ((ls[j / k])[j % k]'(by rw [hw]; exact hm)) := List.getElem?_eq_getElem _
  have h1 := flat_get k ls h.wide (j / k) _ hx (j % k) _ hy
  have e2 : j / k * k + j % k = j := by rw [Nat.mul_comm]; exact Nat.div_add_mod j k
  rw [e2, hu] at h1
  cases h1
  have h2 := hc _ _ hx _ _ hy
  rw [Nat.add_assoc, e2] at h2
  exact h2

/-- a version: commit, value, gone -/
structure Ver where
  seq : Int
  val : ByteArray
  gone : Bool
def Ver.cells (x : Ver) : List Value := [.int .i64 x.seq, .string x.val, .bool x.gone]
abbrev RdV (B : Nat) (w : World) (ao : Option Addr) (n cap : Nat) (l : List Ver) : Prop := Rd 3 B w ao n cap (l.map Ver.cells)
theorem Ver.wide (l : List Ver) : ∀ x ∈ l.map Ver.cells, x.length = 3 := by
  intro x hx
  obtain ⟨y, _, rfl⟩ := List.mem_map.1 hx
  rfl
theorem RdV.at_ {B : Nat} {w : World} {ao : Option Addr} {n cap : Nat} {l : List Ver} (h : RdV B w ao n cap l) {i : Nat} {x : Ver} (hx : l[i]? = some x) {b off : Nat} (e : ao = some ⟨b, off, none⟩) :
    w.cell? ⟨b, off + i * 3, none⟩ = some (.int .i64 x.seq) ∧ w.cell? ⟨b, off + i * 3 + 1, none⟩ = some (.string x.val) ∧ w.cell? ⟨b, off + i * 3 + 2, none⟩ = some (.bool x.gone) := by
  have hi : i < l.length := (List.getElem?_eq_some_iff.1 hx).1
  obtain ⟨b', off', e', _, hc⟩ := h.cells (by have := h.len; simp at this; omega)
  rw [e] at e'
  cases e'
  have hm : (l.map Ver.cells)[i]? = some x.cells := by simp [hx]
  exact ⟨hc i _ hm 0 _ rfl, hc i _ hm 1 _ rfl, hc i _ hm 2 _ rfl⟩
/-- the commit of the last version; -1: there is none -/
def lastV (l : List Ver) : Int := match l.getLast? with | none => -1 | some x => x.seq
end Go.Mb
namespace Go.Mb
theorem Rd.holds {k B : Nat} {w : World} {ao : Option Addr} {n cap : Nat} {ls : List (List Value)} (h : Rd k B w ao n cap ls) : ∀ b, ao = some b → ∀ j u, ls.flatten[j]? = some u → w.cell? (b.add j) = some u := by
  intro b e j u hu
  have hn : 0 < n := by
    rcases Nat.eq_zero_or_pos n with h0 | h0
    · have hl := h.len
      rw [h0] at hl
      have := List.eq_nil_of_length_eq_zero hl
      subst this
      simp at hu
    · exact h0
  obtain ⟨b', off, e', _, _⟩ := h.cells hn
  rw [e] at e'
  cases e'
  rw [Addr.add_lit]
  exact h.all e j u hu
theorem Ver.flat_length (l : List Ver) : (l.map Ver.cells).flatten.length = l.length * 3 := by rw [Go.Mb.flat_length 3 _ (Ver.wide l), List.length_map]
end Go.Mb
