/-
  The disk's Names.
-/
import Derived.Test.YtfiigdgkgelbkaaDk7
import Derived.Test.YtfiigdgkgelbkaaIter
import Derived.Test.YtfiigdgkgelbkaaNam
import Derived.OwnWalkIn
import Derived.TacticsInMore
import Derived.LoopNIn
import Derived.LoopIn
namespace Go.Mb
open Go.RowKit Go.Sort Go.Maps Go.Proofs
theorem encStr_key (f : Fl) : encStr f.key = .string f.name := by
  unfold encStr Fl.key
  simp
def NamesSt (tS : TypeId) (d : Dk) (w : World) (e : Ending) (w' : World) : Prop :=
  ∃ v, e = .returned v ∧ (if d.down then v = .slice none 0 0 else w'.ownsRow w.heap.size tS 1 v d.fs.length (d.fs.map fun f => .string f.name)) ∧ Below w.heap.size w w'
end Go.Mb
namespace Go.Proofs.Ytfiigdgkgelbkaa
open Go.RowKit Go.Mb Go.Maps Go.Sort Go.Shelf

/-- 'slices.Sorted(maps.Keys(d.files))' -/
theorem keys_any (m : Nat) (fs : List Fl) (hs : SrtF fs) (hN : fs.length ≤ 1000000) (w : World) (hown : w.ownsMap Try.prog 9 fileR m fs.length (flsD fs)) :
    CallsIn Fence.wide 5 Try.prog 29 #[.func (.func 39) #[] #[.pointer (some ⟨w.heap.size, 0, none⟩)]] (w.alloc (.cells #[.map (some m)] 61)) fun e w' => ∃ v, e = .returned v ∧
      w'.ownsRow (w.heap.size + 1) 9 1 v fs.length (fs.map fun f => .string f.name) ∧ Below (w.heap.size + 1) (w.alloc (.cells #[.map (some m)] 61)) w' := by
  have hsz : Maps.size (flsD fs) = fs.length := by show (fs.map Fl.lit).length = _; simp
  refine (Try.slices_Sorted_keys_29_30 m fs.length (flsD fs) fileR w hown (by rw [hsz]; unfold maxLen; omega) (by rw [hsz]; omega)).mono ?_
  rintro e w' ⟨v, ss, rfl, hp, hrow, _, hb⟩
  rw [World.size_alloc] at hrow hb
  have hlen : ss.length = fs.length := by rw [hp.length_eq, strKeys_fls, List.length_map]
  rw [sorted_names hs hp, hlen, List.map_map] at hrow
  refine ⟨v, rfl, ?_, hb⟩
  have e1 : fs.map (encStr ∘ Fl.key) = fs.map fun f => .string f.name := List.map_congr_left fun f _ => encStr_key f
  rw [← e1]
  exact hrow

set_option maxHeartbeats 1000000 in
set_option maxRecDepth 100000 in
theorem names_any (S m N : Nat) (d : Dk) (w : World) (h : DkAt Try.prog 63 w S m d N) (hN : N ≤ 1000000) : Calls Try.prog 27 #[.pointer (some ⟨S, 0, none⟩)] w (NamesSt 9 d w) := by
  obtain ⟨c0, c1, c2, c3, fz⟩ := h.cells
  have hdown := down_any S m N d w h
  have hkeys := keys_any m d.fs h.ok.srt (by have := h.ok.few; omega) w h.own
  obtain ⟨room, fs, down, fall⟩ := d
  simp only at c0 c1 c2 c3 hkeys
  have HD := Lib.hid hdown
  have HK := Lib.hid hkeys
  clear h fz hdown hkeys
  refine (callsIn_wide (n := 6)).1 ?_
  have hf14 : Fence.wide.fn 14 := trivial
  have hf30 : Fence.wide.fn 30 := trivial
  have hf29 : Fence.wide.fn 29 := trivial
  refine callsIn_of_wp Try.func27 rfl trivial ?_ rfl
  simp only [Try.ntmps27, List.size_toArray, List.length_cons, List.length_nil, Nat.reduceAdd, Nat.reduceSub, Array.replicate_succ, Array.replicate_zero, List.push_toArray, List.append_toArray, List.nil_append, List.cons_append]
  cases down with
  | true =>
    gi_wp2_with (gi_at_call 14; refine (callsIn_wide.2 HD.out).mono ?_; rintro e w1 ⟨rfl, hw⟩; subst w1)
    go_ret
    exact ⟨_, rfl, rfl, Below.refl _ _⟩
  | false =>
    gi_wp2_with (first
      | (gi_at_call 14; refine (callsIn_wide.2 HD.out).mono ?_; rintro e w1 ⟨rfl, hw⟩; subst w1)
      | (gi_at_call 30; refine (Try.maps_Keys_30 _ _).mono ?_; rintro e w1 ⟨rfl, hw⟩; subst w1)
      | (gi_at_call 29; refine (HK.out).mono ?_; rintro e w' ⟨v, rfl, hrow, hb⟩))
    go_ret
    exact ⟨v, rfl, own_mono hrow (by omega), ((Below.refl _ w).alloc (Nat.le_refl _) _).trans (hb.mono (by simp))⟩
end Go.Proofs.Ytfiigdgkgelbkaa
