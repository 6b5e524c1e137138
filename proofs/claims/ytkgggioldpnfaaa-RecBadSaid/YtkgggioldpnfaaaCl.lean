/-
  slices.Clone at writes, at commits, at a leaf's items.
-/
import Derived.Test.YtkgggioldpnfaaaChecked
import Derived.Test.YtkgggioldpnfaaaRd
namespace Go.Mb
open Go.RowKit
def Cloned (e : TypeId) (k n : Nat) (cs : List Value) (w : World) (en : Ending) (w' : World) : Prop :=
  ∃ v', en = .returned v' ∧ w'.ownsRow w.heap.size e k v' n cs ∧ Below w.heap.size w w'
end Go.Mb
namespace Go.Proofs.Ytkgggioldpnfaaa
open Go.RowKit Go.Mb

theorem Try.info31 : (Try.prog.info? 31).map (fun i => (i.zero, i.size, i.bytes)) = some (some (.agg #[.string ⟨#[]⟩, .string ⟨#[]⟩, .bool false]), 3, 40) := by kernel_rfl
theorem Try.info28 : (Try.prog.info? 28).map (fun i => (i.zero, i.size, i.bytes)) = some (some (.agg #[.int .i64 0, .int .i64 0, .slice none 0 0]), 3, 40) := by kernel_rfl
theorem Try.info124 : (Try.prog.info? 124).map (fun i => (i.zero, i.size, i.bytes)) = some (some (.agg #[.string ⟨#[]⟩, .slice none 0 0]), 2, 40) := by kernel_rfl

set_option maxHeartbeats 1000000 in
set_option maxRecDepth 100000 in
theorem cloneW_any (B : Nat) (ao : Option Addr) (n cap : Nat) (ls : List (List Value)) (w : World) (h : Rd 3 B w ao n cap ls) (hB : B ≤ w.heap.size) (hn : n ≤ 1000000) (h1c : ∀ x ∈ ls, ∀ u ∈ x, u.oneCell' = true) :
    Calls Try.prog 43 #[.slice ao n cap] w (Cloned 31 3 n ls.flatten w) := by
  have heq := fun (wx : World) => Lib.run_eql_slice_nil (P := Try.prog) wx 22 31 ao n cap 0 0 Try.underlying22
  rcases ao with _ | ad
  · have hn0 : n = 0 := by
      rcases Nat.eq_zero_or_pos n with h0 | h0
      · exact h0
      · obtain ⟨b, off, e, _⟩ := h.cells h0
        cases e
    subst hn0
    have hl : ls = [] := List.eq_nil_of_length_eq_zero h.len
    subst hl
    clear h
    go_enter Try.func43, Try.ntmps43
    go_wp2_with fail
    go_ret
    exact ⟨_, rfl, World.ownsRow_nil _ _ _ _, Below.refl _ _⟩
  · have hh : ∀ o, ∀ j u, ls.flatten[j]? = some u → (w.alloc o).cell? (ad.add j) = some u := fun o j u hj => (h.below ((Below.refl _ _).alloc hB o)).holds _ rfl j u hj
    have HH := Lib.hid hh
    have hf := flat_length 3 ls h.wide
    rw [h.len] at hf
    have HF := Lib.hid hf
    have hone : ∀ u ∈ ls.flatten, u.oneCell' = true := fun u hu => by
      obtain ⟨x, hx, hu⟩ := List.mem_flatten.1 hu
      exact h1c x hx u hu
    have HO := Lib.hid hone
    clear hh hf hone h h1c
    obtain ⟨i0, hi0, hz0, hz1, hz2⟩ := info_parts Try.info31
    go_enter Try.func43, Try.ntmps43
    go_wp2_with (at_builtin; refine wpList_append_own _ rfl _ _ 22 rfl w.heap.size 31 i0 _ 3 _ Try.underlying22 hi0 hz0 hz1 hz2 rfl (by decide) _ 0 [] rfl (World.ownsRow_made w #[] 0 (Nat.le_refl _) (Nat.zero_le _) rfl) ad n cap ls.flatten rfl HF.out (by exact HH.out _) HO.out (by unfold maxLen; omega) (by omega) (by simp) ?_; intro v' w' hown hgrow _)
    go_ret
    refine ⟨v', rfl, by simpa using hown, ((Below.refl w.heap.size w).alloc (Nat.le_refl _) _).grown hgrow (by simp) (fun g hg => ?_)⟩
    have e : w.heap.size = g := Option.some.inj hg
    omega

set_option maxHeartbeats 1000000 in
set_option maxRecDepth 100000 in
theorem cloneC_any (B : Nat) (ao : Option Addr) (n cap : Nat) (ls : List (List Value)) (w : World) (h : Rd 3 B w ao n cap ls) (hB : B ≤ w.heap.size) (hn : n ≤ 1000000) (h1c : ∀ x ∈ ls, ∀ u ∈ x, u.oneCell' = true) :
    Calls Try.prog 61 #[.slice ao n cap] w (Cloned 28 3 n ls.flatten w) := by
  have heq := fun (wx : World) => Lib.run_eql_slice_nil (P := Try.prog) wx 23 28 ao n cap 0 0 Try.underlying23
  rcases ao with _ | ad
  · have hn0 : n = 0 := by
      rcases Nat.eq_zero_or_pos n with h0 | h0
      · exact h0
      · obtain ⟨b, off, e, _⟩ := h.cells h0
        cases e
    subst hn0
    have hl : ls = [] := List.eq_nil_of_length_eq_zero h.len
    subst hl
    clear h
    go_enter Try.func61, Try.ntmps61
    go_wp2_with fail
    go_ret
    exact ⟨_, rfl, World.ownsRow_nil _ _ _ _, Below.refl _ _⟩
  · have hh : ∀ o, ∀ j u, ls.flatten[j]? = some u → (w.alloc o).cell? (ad.add j) = some u := fun o j u hj => (h.below ((Below.refl _ _).alloc hB o)).holds _ rfl j u hj
    have HH := Lib.hid hh
    have hf := flat_length 3 ls h.wide
    rw [h.len] at hf
    have HF := Lib.hid hf
    have hone : ∀ u ∈ ls.flatten, u.oneCell' = true := fun u hu => by
      obtain ⟨x, hx, hu⟩ := List.mem_flatten.1 hu
      exact h1c x hx u hu
    have HO := Lib.hid hone
    clear hh hf hone h h1c
    obtain ⟨i0, hi0, hz0, hz1, hz2⟩ := info_parts Try.info28
    go_enter Try.func61, Try.ntmps61
    go_wp2_with (at_builtin; refine wpList_append_own _ rfl _ _ 23 rfl w.heap.size 28 i0 _ 3 _ Try.underlying23 hi0 hz0 hz1 hz2 rfl (by decide) _ 0 [] rfl (World.ownsRow_made w #[] 0 (Nat.le_refl _) (Nat.zero_le _) rfl) ad n cap ls.flatten rfl HF.out (by exact HH.out _) HO.out (by unfold maxLen; omega) (by omega) (by simp) ?_; intro v' w' hown hgrow _)
    go_ret
    refine ⟨v', rfl, by simpa using hown, ((Below.refl w.heap.size w).alloc (Nat.le_refl _) _).grown hgrow (by simp) (fun g hg => ?_)⟩
    have e : w.heap.size = g := Option.some.inj hg
    omega

set_option maxHeartbeats 1000000 in
set_option maxRecDepth 100000 in
theorem cloneI_any (B : Nat) (ao : Option Addr) (n cap : Nat) (ls : List (List Value)) (w : World) (h : Rd 2 B w ao n cap ls) (hB : B ≤ w.heap.size) (hn : n ≤ 1000000) (h1c : ∀ x ∈ ls, ∀ u ∈ x, u.oneCell' = true) :
    Calls Try.prog 85 #[.slice ao n cap] w (Cloned 124 2 n ls.flatten w) := by
  have heq := fun (wx : World) => Lib.run_eql_slice_nil (P := Try.prog) wx 125 124 ao n cap 0 0 Try.underlying125
  rcases ao with _ | ad
  · have hn0 : n = 0 := by
      rcases Nat.eq_zero_or_pos n with h0 | h0
      · exact h0
      · obtain ⟨b, off, e, _⟩ := h.cells h0
        cases e
    subst hn0
    have hl : ls = [] := List.eq_nil_of_length_eq_zero h.len
    subst hl
    clear h
    go_enter Try.func85, Try.ntmps85
    go_wp2_with fail
    go_ret
    exact ⟨_, rfl, World.ownsRow_nil _ _ _ _, Below.refl _ _⟩
  · have hh : ∀ o, ∀ j u, ls.flatten[j]? = some u → (w.alloc o).cell? (ad.add j) = some u := fun o j u hj => (h.below ((Below.refl _ _).alloc hB o)).holds _ rfl j u hj
    have HH := Lib.hid hh
    have hf := flat_length 2 ls h.wide
    rw [h.len] at hf
    have HF := Lib.hid hf
    have hone : ∀ u ∈ ls.flatten, u.oneCell' = true := fun u hu => by
      obtain ⟨x, hx, hu⟩ := List.mem_flatten.1 hu
      exact h1c x hx u hu
    have HO := Lib.hid hone
    clear hh hf hone h h1c
    obtain ⟨i0, hi0, hz0, hz1, hz2⟩ := info_parts Try.info124
    go_enter Try.func85, Try.ntmps85
    go_wp2_with (at_builtin; refine wpList_append_own _ rfl _ _ 125 rfl w.heap.size 124 i0 _ 2 _ Try.underlying125 hi0 hz0 hz1 hz2 rfl (by decide) _ 0 [] rfl (World.ownsRow_made w #[] 0 (Nat.le_refl _) (Nat.zero_le _) rfl) ad n cap ls.flatten rfl HF.out (by exact HH.out _) HO.out (by unfold maxLen; omega) (by omega) (by simp) ?_; intro v' w' hown hgrow _)
    go_ret
    refine ⟨v', rfl, by simpa using hown, ((Below.refl w.heap.size w).alloc (Nat.le_refl _) _).grown hgrow (by simp) (fun g hg => ?_)⟩
    have e : w.heap.size = g := Option.some.inj hg
    omega

end Go.Proofs.Ytkgggioldpnfaaa
