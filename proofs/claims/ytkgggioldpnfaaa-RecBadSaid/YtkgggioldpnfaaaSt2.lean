/-
  store.Right, rec.right, chain.Last.
-/
import Derived.Test.YtkgggioldpnfaaaSt1
namespace Go.Mb
def rightB (l : List Wr) : Bool := decide (l.length ≤ 200) && risesB l
end Go.Mb
namespace Go.Proofs.Ytkgggioldpnfaaa
open Go.RowKit Go.Mb

set_option maxHeartbeats 1000000 in
set_option maxRecDepth 100000 in
theorem right_any (B : Nat) (ao : Option Addr) (n cap : Nat) (l : List Wr) (w : World) (h : RdW B w ao n cap l) (hB : B ≤ w.heap.size) :
    Calls Try.prog 27 #[.slice ao n cap] w (fun e w' => e = .returned (.bool (rightB l)) ∧ Below w.heap.size w w') := by
  have hlen := h.len
  simp only [List.length_map] at hlen
  have hmax := h.max
  have hle := h.le
  unfold maxLen at hmax
  by_cases h2 : n ≤ 200
  · have hr : rightB l = risesB l := by unfold rightB; simp [hlen, h2]
    have HR := Lib.hid hr
    clear hr hlen
    go_enter Try.func27, Try.ntmps27
    go_wp2_with (go_at_call 41; refine (rises_any B ao n cap l _ h hB).mono ?_; rintro e w1 ⟨rfl, hb⟩)
    go_ret
    exact ⟨ret_bool HR.out.symm, hb⟩
  · have hr : rightB l = false := by unfold rightB; simp [hlen, h2]
    have HR := Lib.hid hr
    have h2' : (200 : Int) < n := by omega
    clear hr hlen
    go_enter Try.func27, Try.ntmps27
    go_wp2_with fail
    go_ret
    exact ⟨ret_bool HR.out.symm, Below.refl _ _⟩
end Go.Proofs.Ytkgggioldpnfaaa
namespace Go.Mb
def seqB (s : Int) : Bool := decide (1 ≤ s) && decide (s ≤ 1099511627776)
def atB (a : Int) : Bool := decide (0 ≤ a) && decide (a ≤ 1099511627776)
end Go.Mb
namespace Go.Proofs.Ytkgggioldpnfaaa
open Go.RowKit Go.Mb

set_option maxHeartbeats 1000000 in
set_option maxRecDepth 100000 in
theorem recRight_any (B : Nat) (sq tm : Int) (ao : Option Addr) (n cap : Nat) (l : List Wr) (w : World) (h : RdW B w ao n cap l) (hB : B ≤ w.heap.size) :
    Calls Try.prog 49 #[.agg #[.int .i64 sq, .int .i64 tm, .slice ao n cap]] w (fun e w' => e = .returned (.bool (seqB sq && atB tm && rightB l)) ∧ Below w.heap.size w w') := by
  have key : ∀ b : Bool, (seqB sq && atB tm && rightB l) = b → Hid ((seqB sq && atB tm && rightB l) = b) := fun b hb => hb
  by_cases h1 : 1 ≤ sq
  · by_cases h2 : sq ≤ 1099511627776
    · by_cases h3 : 0 ≤ tm
      · by_cases h4 : tm ≤ 1099511627776
        · have HR := key (rightB l) (by simp [seqB, atB, h1, h2, h3, h4])
          clear key
          go_enter Try.func49, Try.ntmps49
          go_wp2_with (go_at_call 27; refine (right_any B ao n cap l _ (h.below ((Below.refl _ _).alloc hB _)) (by simp; omega)).mono ?_; rintro e w1 ⟨rfl, hb⟩)
          go_ret
          exact ⟨ret_bool HR.out.symm, ((Below.refl _ _).alloc (Nat.le_refl _) _).trans (hb.mono (by simp))⟩
        · have HR := key false (by simp [seqB, atB, h1, h2, h3, h4])
          have h4' : 1099511627776 < tm := by omega
          clear key h4
          go_enter Try.func49, Try.ntmps49
          go_wp2_with fail
          go_ret
          exact ⟨ret_bool HR.out.symm, ((Below.refl _ _).alloc (Nat.le_refl _) _)⟩
      · have HR := key false (by simp [seqB, atB, h1, h2, h3])
        have h3' : tm < 0 := by omega
        clear key h3
        go_enter Try.func49, Try.ntmps49
        go_wp2_with fail
        go_ret
        exact ⟨ret_bool HR.out.symm, ((Below.refl _ _).alloc (Nat.le_refl _) _)⟩
    · have HR := key false (by simp [seqB, atB, h1, h2])
      have h3' : 1099511627776 < sq := by omega
      clear key h2
      go_enter Try.func49, Try.ntmps49
      go_wp2_with fail
      go_ret
      exact ⟨ret_bool HR.out.symm, ((Below.refl _ _).alloc (Nat.le_refl _) _)⟩
  · have HR := key false (by simp [seqB, atB, h1])
    have h3' : sq < 1 := by omega
    clear key h1
    go_enter Try.func49, Try.ntmps49
    go_wp2_with fail
    go_ret
    exact ⟨ret_bool HR.out.symm, ((Below.refl _ _).alloc (Nat.le_refl _) _)⟩

end Go.Proofs.Ytkgggioldpnfaaa
