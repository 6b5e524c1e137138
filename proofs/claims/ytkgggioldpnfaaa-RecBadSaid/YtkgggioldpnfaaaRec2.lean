/-
  The law's example: rec.Commit of one commit.
-/
import Derived.Test.YtkgggioldpnfaaaRec1
namespace Go.Mb
open Go.RowKit Go.Proofs.Ytkgggioldpnfaaa
def hw1 : Wr := ⟨⟨#[97]⟩, ⟨#[120]⟩, false⟩
theorem hw1_ok : (seqB 1 && atB 0 && rightB [hw1]) = true := by decide +kernel
theorem hw1_bytes : bytesOf (cmC 1 0 [hw1]) = ⟨#[1, 1, 0, 1, 1, 1, 1, 97, 0, 1, 1, 120]⟩ := by decide +kernel
theorem rd_one {w : World} {g : Nat} {t : TypeId} {l : List (List Value)} {k : Nat} {x : List Value} (hb : Blk w g t x.toArray) (hx : x.length = k) (hl : l = [x]) : Rd k w.heap.size w (some ⟨g, 0, none⟩) 1 1 l := by
  subst hl
  refine ⟨rfl, Nat.le_refl _, by decide, by simp [hx], fun _ => ⟨g, 0, rfl, hb.lt, fun i y hy j u hu => ?_⟩⟩
  cases i with
  | succ i => simp at hy
  | zero =>
    simp at hy
    subst hy
    rw [hb.cell]
    simpa using hu
end Go.Mb
namespace Go.Proofs.Ytkgggioldpnfaaa
open Go.RowKit Go.Mb
set_option maxHeartbeats 1000000 in
set_option maxRecDepth 100000 in
theorem head_rec (w : World) : Calls Try.prog 10 #[] w (fun e w' => e = .returned (.bool true) ∧ Below w.heap.size w w') := by
  obtain ⟨W0, hW0⟩ : ∃ W, W = w.alloc (Obj.cells #[.string ⟨#[97]⟩, .string ⟨#[120]⟩, .bool false] 31) := ⟨_, rfl⟩
  obtain ⟨g, hg⟩ : ∃ g, g = w.heap.size := ⟨_, rfl⟩
  have hblk : Blk W0 g 31 #[.string ⟨#[97]⟩, .string ⟨#[120]⟩, .bool false] := by rw [hW0, hg]; exact Blk.new _ _ _
  have hb0 : Below w.heap.size w W0 := by rw [hW0]; exact (Below.refl _ _).alloc (Nat.le_refl _) _
  have HRD : Hid (RdW W0.heap.size W0 (some ⟨g, 0, none⟩) 1 1 [hw1]) := rd_one (x := hw1.cells) hblk rfl rfl
  have HW := Lib.hid hW0
  have HGG := Lib.hid hg
  have HB0 := Lib.hid hb0
  have hsz := hb0.size
  clear hW0 hg hblk hb0
  go_enter Try.func10, Try.ntmps10
  go_wp2_with fail
  rw [← HW.out, ← HGG.out]
  refine (recCommit_any W0.heap.size 1 0 _ 1 1 [hw1] _ HRD.out (Nat.le_refl _)).mono ?_
  rintro e w1 ⟨h1, hb1⟩
  rw [hw1_ok, hw1_bytes] at h1
  obtain rfl := h1
  go_wp2_with fail
  go_ret
  exact ⟨rfl, HB0.out.trans (hb1.mono hsz)⟩
end Go.Proofs.Ytkgggioldpnfaaa
