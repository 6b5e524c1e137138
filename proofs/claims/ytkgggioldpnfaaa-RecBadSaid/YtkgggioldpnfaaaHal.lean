/-
  tree.halves: a leaf's items in two lists of new memory.
-/
import Derived.Test.YtkgggioldpnfaaaCl
import Derived.Test.YtkgggioldpnfaaaFnd
import Derived.Deep.RegionHeld3
import Derived.Deep.DeepMust
namespace Go.Mb
open Go.RowKit
theorem Rd.take_ {k B : Nat} {w : World} {ao : Option Addr} {n cap : Nat} {ls : List (List Value)} (h : Rd k B w ao n cap ls) {m : Nat} (hm : m ≤ n) : Rd k B w ao m cap (ls.take m) :=
  ⟨by rw [List.length_take, h.len]; omega, Nat.le_trans hm h.le, h.max, fun x hx => h.wide x (List.mem_of_mem_take hx), fun h0 => by
    obtain ⟨b, off, e, hb, hc⟩ := h.cells (by omega)
    refine ⟨b, off, e, hb, fun i x hx j u hu => hc i x ?_ j u hu⟩
    rw [List.getElem?_take] at hx
    split at hx
    · exact hx
    · cases hx⟩
theorem Rd.drop_ {k B : Nat} {w : World} {b off : Nat} {n cap : Nat} {ls : List (List Value)} (h : Rd k B w (some ⟨b, off, none⟩) n cap ls) {m : Nat} (hm : m ≤ n) : Rd k B w (some ⟨b, off + m * k, none⟩) (n - m) (cap - m) (ls.drop m) :=
  ⟨by rw [List.length_drop, h.len], by have := h.le; omega, by have := h.max; omega, fun x hx => h.wide x (List.mem_of_mem_drop hx), fun h0 => by
    obtain ⟨b', off', e, hb, hc⟩ := h.cells (by omega)
    cases e
    refine ⟨b, off + m * k, rfl, hb, fun i x hx j u hu => ?_⟩
    rw [List.getElem?_drop] at hx
    have := hc _ x hx j u hu
    rw [show off + m * k + i * k + j = off + (m + i) * k + j by rw [Nat.add_mul]; omega]
    exact this⟩
/-- what halves hands back -/
def Halved (e : TypeId) (k n : Nat) (ls : List (List Value)) (w : World) (en : Ending) (w' : World) : Prop :=
  ∃ a b, en = .returned (.tuple #[a, b]) ∧ w'.ownsRow w.heap.size e k a (n / 2) (ls.take (n / 2)).flatten ∧ w'.ownsRow w.heap.size e k b (n - n / 2) (ls.drop (n / 2)).flatten ∧ (∀ g, a.ownBlock = some g → b.ownBlock ≠ some g) ∧ Below w.heap.size w w'
end Go.Mb
namespace Go.Proofs.Ytkgggioldpnfaaa
open Go.RowKit Go.Mb

set_option maxHeartbeats 1000000 in
set_option maxRecDepth 100000 in
theorem halves_any (B : Nat) (b off : Nat) (n cap : Nat) (ls : List (List Value)) (w : World) (h : Rd 2 B w (some ⟨b, off, none⟩) n cap ls) (hB : B ≤ w.heap.size) (h2 : 2 ≤ n) (hn : n ≤ 1000000) (h1c : ∀ x ∈ ls, ∀ u ∈ x, u.oneCell' = true) :
    Calls Try.prog 64 #[.slice (some ⟨b, off, none⟩) n cap] w (Halved 124 2 n ls w) := by
  have hle := h.le
  have hmax := h.max
  unfold maxLen at hmax
  obtain ⟨m, hm⟩ : ∃ m, n / 2 = m := ⟨_, rfl⟩
  have hHal : Halved 124 2 n ls w = fun en w' => ∃ a b, en = .returned (.tuple #[a, b]) ∧ w'.ownsRow w.heap.size 124 2 a m (ls.take m).flatten ∧ w'.ownsRow w.heap.size 124 2 b (n - m) (ls.drop m).flatten ∧ (∀ g, a.ownBlock = some g → b.ownBlock ≠ some g) ∧ Below w.heap.size w w' := by
    unfold Halved; rw [hm]
  have hmn : m ≤ n := by omega
  have hA : Rd 2 B w.drew (some ⟨b, off, none⟩) m cap (ls.take m) := (h.take_ hmn).drew
  have hZ : Rd 2 B w.drew (some ⟨b, off + m * 2, none⟩) (n - m) (cap - m) (ls.drop m) := (h.drop_ hmn).drew
  have d1 : ¬ (cap = m) := by omega
  have hq : (n : Int) / 2 = (m : Int) := by omega
  have b2 : (m : Int) ≤ n := by omega
  have b3 : (m : Int) ≤ cap := by omega
  have HA := Lib.hid hA
  have HZ := Lib.hid hZ
  have HC : Hid (∀ x ∈ ls, ∀ u ∈ x, u.oneCell' = true) := h1c
  have hB' : B ≤ w.drew.heap.size := hB
  clear hA hZ h h1c
  have l1 : m ≤ 1000000 := by omega
  have l2 : n - m ≤ 1000000 := by omega
  have o1 : ∀ x ∈ ls.take m, ∀ u ∈ x, u.oneCell' = true := fun x hx => HC.out x (List.mem_of_mem_take hx)
  have o2 : ∀ x ∈ ls.drop m, ∀ u ∈ x, u.oneCell' = true := fun x hx => HC.out x (List.mem_of_mem_drop hx)
  have HH := Lib.hid hHal
  have HM := Lib.hid hm
  clear hHal hm
  have O1 := Lib.hid o1
  have O2 := Lib.hid o2
  clear o1 o2
  go_enter Try.func64, Try.ntmps64
  go_wp2_with fail
  go_region_held3 (fun _ => True) (exact True.intro)
    ((first
      | (go_at_call_of 85 (Value.slice (some (Addr.mk b off none)) m cap); refine (cloneI_any B _ m cap (ls.take m) _ HA.out hB' l1 O1.out).mono ?_; rintro e wa ⟨va, rfl, hoa, hca⟩; have HOa := Lib.hid hoa; have HCa := Lib.hid hca; clear hoa hca)
      | (go_at_call 85; refine (cloneI_any B _ (n - m) (cap - m) (ls.drop m) _ (HZ.out.below (HCa.out.mono hB')) (Nat.le_trans hB' HCa.out.size) l2 O2.out).mono ?_; rintro e wb ⟨vb, rfl, hob, hcb⟩; have HOb := Lib.hid hob; have HCb := Lib.hid hcb; clear hob hcb)))
  go_wp2_with fail
  go_ret2
  rw [HH.out]
  refine ⟨va, vb, rfl, own_chg (ts := []) HOa.out (Chg.of_below HCb.out 0 []) (by simp), own_mono HOb.out HCa.out.size, fun g hg hg' => ?_, ?_⟩
  · have h1 := HOa.out.lt g hg
    have h2 := HOb.out.lt g hg'
    omega
  · exact (⟨rfl, rfl, rfl, Nat.le_refl _, fun _ _ => rfl⟩ : Below w.heap.size w w.drew).trans (HCa.out.trans (HCb.out.mono HCa.out.size))

end Go.Proofs.Ytkgggioldpnfaaa
