/-
  Plain laws: the names of files in order; a disk behind a loss of power.
-/
import Derived.Test.YtfiigdgkgelbkaaDk1
import Derived.Sort.KeysCollected
namespace Go.Mb
open Go.Sort
def Fl.key (f : Fl) : List UInt8 := f.name.data.toList
theorem strKeys_fls (fs : List Fl) : strKeys (flsD fs) = fs.map Fl.key := by
  show (fs.map Fl.lit).map _ = _
  rw [List.map_map]; rfl
theorem less_lt : ∀ a b : List UInt8, Op.bytesLess a b = true ↔ a < b
  | [], [] => by simp [Op.bytesLess]
  | [], _ :: _ => by simp [Op.bytesLess]
  | _ :: _, [] => by simp [Op.bytesLess]
  | x :: a, y :: b => by
    rw [List.cons_lt_cons_iff, ← less_lt a b]
    simp [Op.bytesLess]
theorem names_rise {fs : List Fl} (h : SrtF fs) : (fs.map Fl.key).Pairwise fun a b => leB a b = true := by
  rw [List.pairwise_map]
  refine List.Pairwise.imp (fun {a b} hab => ?_) h
  have h1 : Op.bytesLess b.name.toList a.name.toList = false := ltK_asymm hab
  rw [Lib.toList_data, Lib.toList_data] at h1
  show decide (a.key ≤ b.key) = true
  rw [decide_eq_true_eq]
  show ¬ b.key < a.key
  rw [← less_lt]
  simp [Fl.key, h1]
theorem sorted_names {fs : List Fl} (h : SrtF fs) {ss : List (List UInt8)} (hp : ss.Perm (strKeys (flsD fs))) : ss.mergeSort (fun x y => decide (x ≤ y)) = fs.map Fl.key := by
  rw [show (fun x y : List UInt8 => decide (x ≤ y)) = leB from rfl, mergeSort_of_perm hp, strKeys_fls]
  exact List.mergeSort_of_pairwise (names_rise h)
/-- how much of a file is kept -/
def keptN (f : Fl) (keep : List Int) (i : Nat) : Int := f.safe + (match keep[i]? with | none => 0 | some n => min (max n 0) (f.data.size - f.safe))
def keptF (f : Fl) (keep : List Int) (i : Nat) : Fl := ⟨f.name, f.data.extract 0 (keptN f keep i).toNat, keptN f keep i⟩
def crashF (fs : List Fl) (keep : List Int) : List Fl := fs.mapIdx fun i f => keptF f keep i
def Dk.crash (d : Dk) (keep : List Int) : Dk := ⟨d.room, crashF d.fs keep, false, -1⟩
theorem putF_last {l : List Fl} {f : Fl} (h : ∀ x ∈ l, ltK x.name f.name = true) : putF l f = l ++ [f] := by
  have h1 : delF l f.name = l := by
    unfold delF
    rw [List.filter_eq_self]
    intro x hx
    have := h x hx
    simp
    intro e
    rw [e, ltK_irrefl] at this
    cases this
  unfold putF
  rw [h1]
  clear h1
  induction l with
  | nil => rfl
  | cons a l ih =>
    unfold insF
    rw [ltK_asymm (h a (List.mem_cons_self ..))]
    rw [if_neg Bool.false_ne_true, ih (fun x hx => h x (List.mem_cons_of_mem _ hx))]
    rfl
theorem crashF_get (fs : List Fl) (keep : List Int) (k : Nat) : (crashF fs keep)[k]? = fs[k]?.map fun f => keptF f keep k := by
  unfold crashF; rw [List.getElem?_mapIdx]
theorem crashF_length (fs : List Fl) (keep : List Int) : (crashF fs keep).length = fs.length := by unfold crashF; simp
theorem crash_take {fs : List Fl} (h : SrtF fs) {keep : List Int} {k : Nat} {f : Fl} (hf : fs[k]? = some f) : putF ((crashF fs keep).take k) (keptF f keep k) = (crashF fs keep).take (k + 1) := by
  have hk := (List.getElem?_eq_some_iff.1 hf).1
  rw [List.take_add_one, crashF_get, hf]
  refine putF_last fun x hx => ?_
  obtain ⟨i, hi⟩ := List.mem_iff_getElem?.1 hx
  rw [List.getElem?_take] at hi
  split at hi
  · rename_i hik
    rw [crashF_get] at hi
    obtain ⟨g, hg, rfl⟩ := Option.map_eq_some_iff.1 hi
    obtain ⟨h1, e1⟩ := List.getElem?_eq_some_iff.1 hg
    obtain ⟨h2, e2⟩ := List.getElem?_eq_some_iff.1 hf
    have := List.pairwise_iff_getElem.1 h i k h1 h2 hik
    rw [e1, e2] at this
    exact this
  · cases hi
end Go.Mb
