/-
  Where a key is in a leaf: find$1, slices.BinarySearchFunc at a leaf's items.
-/
import Derived.Test.YtkgggioldpnfaaaChecked
import Derived.Test.YtkgggioldpnfaaaRd
import Derived.Test.YtkgggioldpnfaaaOrd
namespace Go.Mb
/-- an item of a leaf: its key, its chain (where it lies, and what it is) -/
structure It where
  key : ByteArray
  ao : Option Addr
  n : Nat
  cap : Nat
  vs : List Ver
def It.cells (x : It) : List Value := [.string x.key, .slice x.ao x.n x.cap]
abbrev RdI (B : Nat) (w : World) (ao : Option Addr) (n cap : Nat) (l : List It) : Prop := Rd 2 B w ao n cap (l.map It.cells)
theorem RdI.at_ {B : Nat} {w : World} {ao : Option Addr} {n cap : Nat} {l : List It} (h : RdI B w ao n cap l) {i : Nat} {x : It} (hx : l[i]? = some x) {b off : Nat} (e : ao = some ⟨b, off, none⟩) :
    w.cell? ⟨b, off + i * 2, none⟩ = some (.string x.key) ∧ w.cell? ⟨b, off + i * 2 + 1, none⟩ = some (.slice x.ao x.n x.cap) := by
  have hi : i < l.length := (List.getElem?_eq_some_iff.1 hx).1
  obtain ⟨b', off', e', _, hc⟩ := h.cells (by have := h.len; simp at this; omega)
  rw [e] at e'
  cases e'
  have hm : (l.map It.cells)[i]? = some x.cells := by simp [hx]
  exact ⟨hc i _ hm 0 _ rfl, hc i _ hm 1 _ rfl⟩
/-- i is where the key is in the leaf, or would be -/
structure Spot (l : List It) (key : ByteArray) (i : Nat) : Prop where
  le : i ≤ l.length
  lo : ∀ x, 0 < i → l[i - 1]? = some x → ltK x.key key = true
  hi : ∀ x, l[i]? = some x → ltK x.key key = false
def isAt (l : List It) (key : ByteArray) (i : Nat) : Bool := match l[i]? with | none => false | some x => decide (cmpK x.key key = 0)
end Go.Mb
namespace Go.Proofs.Ytkgggioldpnfaaa
open Go.RowKit Go.Mb

set_option maxHeartbeats 400000 in
set_option maxRecDepth 100000 in
theorem compare_any (a b : ByteArray) (w : World) : Calls Try.prog 82 #[.string a, .string b] w fun e w' => e = .returned (.int .i64 (cmpK a b)) ∧ w' = w := by
  have h96 : Calls Try.prog 96 #[.string a, .string b] w fun e w' => e = .returned (.int .i64 (cmpK a b)) ∧ w' = w := by
    go_enter Try.func96, Try.ntmps96
    go_wp2
    rw [run_callFunc_extern Try.func101 (by kernel_rfl) (by kernel_rfl) (by kernel_rfl) (e := Extern.BytealgCompare.compare) (by kernel_rfl), Lib.run_compareString]
    simp only [Result.andThen]
    rw [Oper.upon_value]
    go_wp2
    go_ret
    exact ⟨rfl, rfl⟩
  have H := Lib.hid h96
  clear h96
  go_enter Try.func82, Try.ntmps82
  go_wp2_with (go_at_call 96; refine H.out.mono ?_; rintro e w' ⟨rfl, rfl⟩)
  go_ret
  exact ⟨rfl, rfl⟩

set_option maxHeartbeats 400000 in
set_option maxRecDepth 100000 in
theorem find1_any (k t : ByteArray) (ao : Option Addr) (n cap : Nat) (w : World) :
    Calls Try.prog 81 #[.agg #[.string k, .slice ao n cap], .string t] w fun e w' => e = .returned (.int .i64 (cmpK k t)) ∧ w' = w.alloc (.cells #[.string k, .slice ao n cap] 124) := by
  go_enter Try.func81, Try.ntmps81
  go_wp2_with (go_at_call 82; refine (compare_any _ _ _).mono ?_; rintro e w' ⟨rfl, rfl⟩)
  go_ret
  exact ⟨rfl, rfl⟩

/-- what the search in a leaf hands back -/
def Searched (l : List It) (key : ByteArray) (w : World) (e : Ending) (w' : World) : Prop :=
  ∃ i : Nat, Spot l key i ∧ e = .returned (.tuple #[.int .i64 i, .bool (isAt l key i)]) ∧ Below w.heap.size w w'

set_option maxHeartbeats 1000000 in
set_option maxRecDepth 100000 in
theorem bsearchI_any (B : Nat) (ao : Option Addr) (n cap : Nat) (l : List It) (key : ByteArray) (w : World) (h : RdI B w ao n cap l) (hB : B ≤ w.heap.size) (hn : n ≤ 1000000) :
    Calls Try.prog 80 #[.slice ao n cap, .string key, .func (.func 81) #[] #[]] w (Searched l key w) := by
  have hlen := h.len
  simp only [List.length_map] at hlen
  have hle := h.le
  have hmax := h.max
  unfold maxLen at hmax
  go_enter Try.func80, Try.ntmps80
  go_wp2_with fail
  go_loopw [9, 10, 11] (fun i j _ wr => ∃ a b : Nat, i = .int .i64 a ∧ j = .int .i64 b ∧ a ≤ b ∧ b ≤ n ∧ Hid (∀ x, 0 < a → l[a - 1]? = some x → ltK x.key key = true) ∧ Hid (∀ x, l[b]? = some x → ltK x.key key = false) ∧ Hid (Below w.heap.size w wr)) (fun i j _ _ => (intOf j - intOf i).toNat)
  case atStart => exact ⟨0, n, rfl, rfl, Nat.zero_le _, Nat.le_refl _, (fun x h0 => absurd h0 (Nat.lt_irrefl _)), (fun x hx => by rw [List.getElem?_eq_none (by omega)] at hx; cases hx), Below.refl _ _⟩
  case round =>
    obtain ⟨a, b, rfl, rfl, hab, hbn, hlo, hhi, hh⟩ := hrel
    by_cases hlt : a < b
    · have hm1 : (a + b) / 2 < n := by omega
      obtain ⟨blk, off, rfl, hb, hc⟩ := h.cells (by omega)
      obtain ⟨x, hx⟩ : ∃ x, l[(a + b) / 2]? = some x := ⟨l[(a + b) / 2]'(by omega), List.getElem?_eq_getElem _⟩
      obtain ⟨c0, c1⟩ := RdI.at_ (h.below (hh.out.mono hB)) hx rfl
      have HX := Lib.hid hx
      have HL := Lib.hid hlen
      have HH := Lib.hid h
      clear hc hx hlen h
      go_wp2_with (go_at_call 81; refine (find1_any _ _ _ _ _ _).mono ?_; rintro e w' ⟨rfl, rfl⟩)
      · have hneg : cmpK x.key key < 0 := by assumption
        go_roundw
        case rel => exact ⟨(a + b) / 2 + 1, b, by go_num, rfl, by omega, hbn, (fun y _ hy => by
            rw [Nat.add_sub_cancel, HX.out] at hy
            cases hy
            exact (cmpK_neg _ _).1 hneg), hhi, hh.out.trans ((Below.refl _ _).alloc hh.out.size _)⟩
        case measure => simp [intOf]; omega
      · have hneg : ¬ cmpK x.key key < 0 := by omega
        go_roundw
        case rel => exact ⟨a, (a + b) / 2, rfl, by go_num, by omega, by omega, hlo, (fun y hy => by
            rw [HX.out] at hy
            cases hy
            rw [cmpK_neg] at hneg
            simpa using hneg), hh.out.trans ((Below.refl _ _).alloc hh.out.size _)⟩
        case measure => simp [intOf]; omega
    · obtain rfl : a = b := by omega
      have hsp : Spot l key a := ⟨by omega, hlo.out, hhi.out⟩
      have HS := Lib.hid hsp
      clear hsp hlo hhi
      by_cases han : a < n
      · obtain ⟨blk, off, rfl, hb, hc⟩ := h.cells (by omega)
        obtain ⟨x, hx⟩ : ∃ x, l[a]? = some x := ⟨l[a]'(by omega), List.getElem?_eq_getElem _⟩
        obtain ⟨c0, c1⟩ := RdI.at_ (h.below (hh.out.mono hB)) hx rfl
        have hat : isAt l key a = decide (cmpK x.key key = 0) := by unfold isAt; rw [hx]
        have HX := Lib.hid hat
        clear hc hx hlen h hat
        go_wp2_with (go_at_call 81; refine (find1_any _ _ _ _ _ _).mono ?_; rintro e w' ⟨rfl, rfl⟩)
        go_ret2
        refine ⟨a, HS.out, ?_, hh.out.trans ((Below.refl _ _).alloc hh.out.size _)⟩
        rw [HX.out]
        rfl
      · obtain rfl : a = n := by omega
        have hat : isAt l key a = false := by unfold isAt; rw [List.getElem?_eq_none (by omega)]
        have HX := Lib.hid hat
        clear hat hlen h
        go_wp2_with fail
        go_ret2
        refine ⟨a, HS.out, ?_, hh.out⟩
        rw [HX.out]
        rfl

end Go.Proofs.Ytkgggioldpnfaaa
