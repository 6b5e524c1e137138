/-
  (*Tree).Get, and Put where the key is there.
-/
import Derived.Test.YtkgggioldpnfaaaTr3
namespace Go.Mb
open Go.RowKit
theorem TrAt.pos {base : Nat} {w : World} {cs : Array Value} {o : Nat} {c : Int} {fs : List Lf} {lo : Option Addr} {lcap : Nat} (h : TrAt base w cs o c fs lo lcap) : ∀ f ∈ fs, 0 < f.its.length := fun f hf => by have := h.leaf f hf; omega
/-- the cells on the way to an item -/
theorem TrAt.way {base : Nat} {w : World} {S : Nat} {tS : TypeId} {cs : Array Value} {o : Nat} {c : Int} {fs : List Lf} {lo : Option Addr} {lcap : Nat} (h : TrAt base w cs o c fs lo lcap) (hS : Blk w S tS cs)
    {i : Nat} {f : Lf} (hi : fs[i]? = some f) :
    ∃ L g, lo = some ⟨L, 0, none⟩ ∧ f.ao = some ⟨g, 0, none⟩ ∧ w.cell? ⟨S, o, none⟩ = some (.slice (some ⟨L, 0, none⟩) fs.length lcap) ∧ w.cell? ⟨L, i, none⟩ = some (.slice (some ⟨g, 0, none⟩) f.n f.cap) ∧
      (∀ k x, f.its[k]? = some x → w.cell? ⟨g, k * 2, none⟩ = some (.string x.key) ∧ w.cell? ⟨g, k * 2 + 1, none⟩ = some (.slice x.ao x.n x.cap)) ∧ w.frozen? ⟨L, i, none⟩ = false ∧ (∀ j, w.frozen? ⟨g, j, none⟩ = false) := by
  have hlt := (List.getElem?_eq_some_iff.1 hi).1
  have hfm := List.mem_of_getElem? hi
  obtain ⟨L, rfl, hL1, hL2, curL, hbL, _⟩ := h.root (by omega)
  obtain ⟨g, eg, hg1, hg2, curg, hbg, _⟩ := h.head hfm
  obtain ⟨h1, h2, h3⟩ := h.leaf f hfm
  rw [eg] at h1
  refine ⟨L, g, rfl, eg, by rw [hS.cell]; exact h.cell0, ?_, fun k x hx => ?_, hbL.frozen _, fun j => hbg.frozen _⟩
  · rw [h.rows.cellAt i (by omega), Lf.flat_eq, List.getElem?_map, hi, ← eg]
    rfl
  · have hk := (List.getElem?_eq_some_iff.1 hx).1
    have e0 := flat_get 2 (f.its.map It.cells) (It.wide _) k x.cells (by rw [List.getElem?_map, hx]; rfl) 0 _ rfl
    have e1 := flat_get 2 (f.its.map It.cells) (It.wide _) k x.cells (by rw [List.getElem?_map, hx]; rfl) 1 _ rfl
    refine ⟨?_, ?_⟩
    · rw [h1.cellAt (k * 2) (by omega)]; exact e0
    · rw [h1.cellAt (k * 2 + 1) (by omega)]; exact e1
end Go.Mb
namespace Go.Proofs.Ytkgggioldpnfaaa
open Go.RowKit Go.Mb

/-- what Get hands back -/
def GotIt (fs : List Lf) (key : ByteArray) (w : World) (e : Ending) (w' : World) : Prop :=
  (match lookK (flat fs) key with
    | some x => e = .returned (.tuple #[.slice x.ao x.n x.cap, .bool true])
    | none => e = .returned (.tuple #[.slice none 0 0, .bool false])) ∧ Below w.heap.size w w'

set_option maxHeartbeats 1000000 in
set_option maxRecDepth 100000 in
theorem treeGet_any (base S : Nat) (tS : TypeId) (cs : Array Value) (o : Nat) (c : Int) (fs : List Lf) (lo : Option Addr) (lcap : Nat) (key : ByteArray) (w : World)
    (hT : TrAt base w cs o c fs lo lcap) (hS : Blk w S tS cs) (hs : Srt (flat fs)) (hb : (flat fs).length ≤ 1000000) :
    Calls Try.prog 44 #[.pointer (some ⟨S, o, none⟩), .string key] w (GotIt fs key w) := by
  have hR := hT.rd hS hb
  have hle := hR.rows.le
  have hmax := hR.rows.max
  have hln := hR.few
  unfold maxLen at hmax
  have HT := Lib.hid hT
  have HS := Lib.hid hS
  have HR := Lib.hid hR
  have HSrt := Lib.hid hs
  clear hT hS hR hs
  go_enter Try.func44, Try.ntmps44
  go_wp2_with fail
  refine (find_any w.heap.size S o lo fs.length lcap fs key w HR.out (Nat.le_refl _)).mono ?_
  rintro e w1 ⟨i, k, there, hsp, rfl, hb1⟩
  have HT1 := Lib.hid (HT.out.below hb1)
  have HS1 : Hid (Blk w1 S tS cs) := HS.out.chg (Chg.of_below hb1 0 []) (.inr (by simp))
  have HSP := Lib.hid hsp
  have HB1 := Lib.hid hb1
  clear hsp hb1
  cases there
  · have hlk : lookK (flat fs) key = none := by
      rcases HSP.out with ⟨rfl, _⟩ | hsp
      · rfl
      · obtain ⟨f, hp, hat⟩ := TSpot_parted HSP.out (by rintro rfl; obtain ⟨n, f, _, _, _, rfl, hf, _⟩ := hsp; simp at hf) HSrt.out HT1.out.pos
        have ha := hp.above HSrt.out hat.symm
        rw [hp.split]
        exact lookK_mid hp.lo (fun b hb e => by have := ha b hb; rw [e, ltK_irrefl] at this; cases this)
    have HL := Lib.hid hlk
    clear hlk
    go_wp2_with fail
    go_ret2
    exact ⟨by rw [HL.out]; rfl, HB1.out⟩
  · obtain ⟨f, hp, hat⟩ := TSpot_parted HSP.out (by rintro rfl; rcases HSP.out with ⟨_, _, _, h⟩ | ⟨n, f, _, _, _, rfl, hf, _⟩; exact Bool.noConfusion h; simp at hf) HSrt.out HT1.out.pos
    obtain ⟨x, hx, e, hlk⟩ := hp.yes hat.symm
    obtain ⟨L, g, rfl, _, c0, c1, c2, _, _⟩ := HT1.out.way HS1.out hp.at_
    obtain ⟨c3, c4⟩ := c2 k x hx
    have hi : i < fs.length := (List.getElem?_eq_some_iff.1 hp.at_).1
    have hk : k < f.n := by have := (List.getElem?_eq_some_iff.1 hx).1; have := HT1.out.leaf f (List.mem_of_getElem? hp.at_); omega
    have HL := Lib.hid hlk
    clear hlk c2 hp hat hx e
    go_wp2_with fail
    go_ret2
    exact ⟨by rw [HL.out]; rfl, HB1.out⟩

end Go.Proofs.Ytkgggioldpnfaaa
