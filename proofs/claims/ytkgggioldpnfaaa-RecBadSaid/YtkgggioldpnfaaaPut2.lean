/-
  (*Tree).Put into an empty tree.
-/
import Derived.Test.YtkgggioldpnfaaaPut1
namespace Go.Mb
open Go.RowKit Go.Proofs.Ytkgggioldpnfaaa
theorem own_of_blk {w : World} {base g : Nat} {e : TypeId} {cs : Array Value} {n k : Nat} (h : Blk w g e cs) (hb : base ≤ g) (hs : cs.size = n * k) (hn : n ≤ maxLen) : w.ownsRow base e k (.slice (some ⟨g, 0, none⟩) n n) n cs.toList :=
  ⟨by simpa using hs, .inr ⟨g, n, cs, rfl, hb, h, Nat.le_refl _, hn, hs, List.take_of_length_le (by simp [hs])⟩⟩
end Go.Mb
namespace Go.Proofs.Ytkgggioldpnfaaa
open Go.RowKit Go.Mb

set_option maxHeartbeats 1000000 in
set_option maxRecDepth 100000 in
theorem put_empty (base S : Nat) (tS : TypeId) (cs : Array Value) (o : Nat) (c : Int) (lo : Option Addr) (lcap : Nat) (x : It) (w : World)
    (hT : TrAt base w cs o c [] lo lcap) (hS : Blk w S tS cs) (hc0 : 0 ≤ c) (hc1 : c ≤ 1000000) (hx : ItOk base w x) (hB : base ≤ S) (_htS : tS ≠ 124) (_htS2 : tS ≠ 125) (htS3 : tS ≠ 92) :
    Calls Try.prog 42 #[.pointer (some ⟨S, o, none⟩), .string x.key, .slice x.ao x.n x.cap] w (PutDone base S tS cs o c [] x w) := by
  have hR := hT.rd hS (by simp [flat])
  have c0 : w.cell? ⟨S, o, none⟩ = some (.slice lo 0 lcap) := by rw [hS.cell]; exact hT.cell0
  have c1 : w.cell? ⟨S, o + 1, none⟩ = some (.int .i64 c) := by rw [hS.cell]; exact hT.cell1
  have hmax := hR.rows.max
  unfold maxLen at hmax
  have HT := Lib.hid hT
  have HS := Lib.hid hS
  have HR := Lib.hid hR
  have HX := Lib.hid hx
  clear hT hS hR hx
  go_enter Try.func42, Try.ntmps42
  go_wp2_with fail
  refine (find_any w.heap.size S o lo 0 lcap [] x.key w HR.out (Nat.le_refl _)).mono ?_
  rintro e w1 ⟨i, k, there, hsp, rfl, hb1⟩
  have HS1 : Hid (Blk w1 S tS cs) := HS.out.chg (Chg.of_below hb1 0 []) (.inr (by simp))
  have HX1 := Lib.hid (HX.out.below hb1)
  have HB1 := Lib.hid hb1
  have d0 : w1.cell? ⟨S, o, none⟩ = some (.slice lo 0 lcap) := by rw [HS1.out.cell]; exact HT.out.cell0
  have d1 : w1.cell? ⟨S, o + 1, none⟩ = some (.int .i64 c) := by rw [HS1.out.cell]; exact HT.out.cell1
  have f0 : w1.frozen? ⟨S, o, none⟩ = false := HS1.out.frozen _
  have f1 : w1.frozen? ⟨S, o + 1, none⟩ = false := HS1.out.frozen _
  have hth : there = false := by
    rcases hsp with ⟨_, _, _, h⟩ | ⟨n, f, _, _, _, _, hf, _⟩
    · exact h
    · simp at hf
  subst hth
  have hblk : ∀ u o1 o2, Blk (((w1.setCell ⟨S, o + 1, none⟩ u).alloc o1).alloc o2) S tS (cs.setIfInBounds (o + 1) u) := fun u o1 o2 =>
    ((HS1.out.set_ (o + 1) u).chg (Chg.alloc 0 [] _ o1) (.inr (by simp))).chg (Chg.alloc 0 [] _ o2) (.inr (by simp))
  have g0 : ∀ u o1 o2, (((w1.setCell ⟨S, o + 1, none⟩ u).alloc o1).alloc o2).cell? ⟨S, o, none⟩ = some (.slice lo 0 lcap) := fun u o1 o2 => by
    rw [(hblk u o1 o2).cell, Array.getElem?_setIfInBounds_ne (by omega)]
    exact HT.out.cell0
  have g1 : ∀ u o1 o2, (((w1.setCell ⟨S, o + 1, none⟩ u).alloc o1).alloc o2).frozen? ⟨S, o, none⟩ = false := fun u o1 o2 => (hblk u o1 o2).frozen _
  have HBK := Lib.hid hblk
  have hS1 := HS1.out.lt
  clear hsp hb1 c0 c1 hblk
  go_wp2_with fail
  go_ret
  obtain ⟨W1, hW1⟩ : ∃ W, W = w1.setCell ⟨S, o + 1, none⟩ (.int .i64 (c + 1)) := ⟨_, rfl⟩
  have hz1 : W1.heap.size = w1.heap.size := by rw [hW1]; simp [World.setCell]
  have hb0 : Blk W1 S tS (cs.setIfInBounds (o + 1) (.int .i64 (c + 1))) := by rw [hW1]; exact HS1.out.set_ _ _
  rw [← hW1]
  obtain ⟨W2, hW2⟩ : ∃ W, W = W1.setCell ⟨S, o, none⟩ (.slice (some ⟨w1.heap.size + 1, 0, none⟩) 1 1) := ⟨_, rfl⟩
  have hz2 : W2.heap.size = w1.heap.size := by rw [hW2]; simp [World.setCell, hz1]
  have hb2 : Blk W2 S tS ((cs.setIfInBounds (o + 1) (.int .i64 (c + 1))).setIfInBounds o (.slice (some ⟨w1.heap.size + 1, 0, none⟩) 1 1)) := by rw [hW2]; exact hb0.set_ o _
  rw [← hW2]
  obtain ⟨W3, hW3⟩ : ∃ W, W = (W2.alloc (.cells #[.string x.key, .slice x.ao x.n x.cap] 124)).alloc (.cells #[.slice (some ⟨w1.heap.size, 0, none⟩) 1 1] 125) := ⟨_, rfl⟩
  rw [← hW3]
  have hb3 : Blk W3 S tS ((cs.setIfInBounds (o + 1) (.int .i64 (c + 1))).setIfInBounds o (.slice (some ⟨w1.heap.size + 1, 0, none⟩) 1 1)) := by
    rw [hW3]; exact (hb2.chg (Chg.alloc 0 [] _ _) (.inr (by simp))).chg (Chg.alloc 0 [] _ _) (.inr (by simp))
  have hA3 : Blk W3 w1.heap.size 124 #[.string x.key, .slice x.ao x.n x.cap] := by
    rw [hW3, ← hz2]
    exact (Blk.new W2 124 _).chg (Chg.alloc 0 [] _ _) (.inr (by simp))
  have hC3 : Blk W3 (w1.heap.size + 1) 125 #[.slice (some ⟨w1.heap.size, 0, none⟩) 1 1] := by
    have := Blk.new (W2.alloc (.cells #[.string x.key, .slice x.ao x.n x.cap] 124)) 125 #[.slice (some ⟨w1.heap.size, 0, none⟩) 1 1]
    rw [← hW3] at this
    simpa [hz2] using this
  have hchg : Chg base [tS, 125, 124] w1 W3 := by
    have a1 : Chg base [tS, 125, 124] w1 W1 := by rw [hW1]; exact Chg.setCell _ hB HS1.out (by simp)
    have a2 : Chg base [tS, 125, 124] W1 W2 := by rw [hW2]; exact Chg.setCell _ hB hb0 (by simp)
    have a3 : Chg base [tS, 125, 124] W2 W3 := by rw [hW3]; exact (Chg.alloc _ _ _ _).trans (Chg.alloc _ _ _ _)
    exact a1.trans (a2.trans a3)
  have hbw : base ≤ w1.heap.size := by omega
  have hc0s : cs[o]? = some (.slice lo 0 lcap) := HT.out.cell0
  have hc1s : cs[o + 1]? = some (.int .i64 c) := HT.out.cell1
  have hlt0 := (Array.getElem?_eq_some_iff.1 hc0s).1
  have hlt1 := (Array.getElem?_eq_some_iff.1 hc1s).1
  refine ⟨false, _, [⟨some ⟨w1.heap.size, 0, none⟩, 1, 1, [x]⟩], some ⟨w1.heap.size + 1, 0, none⟩, 1, rfl, hb3, fun j h0 h1 => ?_, ⟨?_, ?_, ?_, ?_, ?_, by simp⟩, ?_, rfl, (Chg.of_below HB1.out _ _).trans hchg⟩
  · rw [Array.getElem?_setIfInBounds_ne (by omega), Array.getElem?_setIfInBounds_ne (by omega)]
  · rw [Array.getElem?_setIfInBounds_self_of_lt (by simpa using hlt0)]; rfl
  · rw [Array.getElem?_setIfInBounds_ne (by omega), Array.getElem?_setIfInBounds_self_of_lt hlt1]; rfl
  · exact own_of_blk hC3 (by omega) (by simp) (by simp [maxLen])
  · intro f hf
    simp only [List.mem_singleton] at hf
    subst hf
    exact ⟨own_of_blk hA3 hbw (by simp) (by simp [maxLen]), rfl, by simp⟩
  · intro f hf y hy
    simp only [List.mem_singleton] at hf
    subst hf
    simp only [List.mem_singleton] at hy
    subst hy
    exact HX1.out.chg hchg (by simp; exact fun e => htS3 e.symm)
  · simp [flat, ups]

end Go.Proofs.Ytkgggioldpnfaaa
