/-
  store.rises, store.Right.
-/
import Derived.Test.YtkgggioldpnfaaaChecked
import Derived.Test.YtkgggioldpnfaaaRd
import Derived.BigQuiet
import Derived.Deep.QuietTactic
import Derived.BigRegion
namespace Go.Mb
/-- is a write wrong by itself? -/
def wrBad (x : Wr) : Bool := x.key.toList.isEmpty || decide ((400 : Int) < x.key.size) || decide ((4096 : Int) < x.val.size) || (x.gone && !x.val.toList.isEmpty)
/-- does the write ahead of place i have no lesser key? -/
def ordBad (l : List Wr) (i : Nat) (k : ByteArray) : Bool :=
  match l[i - 1]? with
  | none => false
  | some p => !Op.bytesLess p.key.toList k.toList
theorem ordBad_eq {l : List Wr} {i : Nat} {k : ByteArray} {p : Wr} (h : l[i - 1]? = some p) : ordBad l i k = !Op.bytesLess p.key.toList k.toList := by unfold ordBad; rw [h]
def badAt (l : List Wr) (i : Nat) : Bool :=
  match l[i]? with
  | none => false
  | some x => wrBad x || (decide (0 < i) && ordBad l i x.key)
/-- do writes rise by their keys, each right? -/
def risesB (l : List Wr) : Bool := (List.range l.length).all fun i => !badAt l i
theorem risesB_no {l : List Wr} {i : Nat} (hi : i < l.length) (h : badAt l i = true) : risesB l = false := by
  rw [Bool.eq_false_iff]
  intro hc
  unfold risesB at hc
  rw [List.all_eq_true] at hc
  have := hc i (by simpa using hi)
  simp [h] at this
theorem risesB_yes {l : List Wr} (h : ∀ i, i < l.length → badAt l i = false) : risesB l = true := by
  unfold risesB
  rw [List.all_eq_true]
  intro i hi
  simp [h i (by simpa using hi)]
theorem badAt_eq {l : List Wr} {i : Nat} {x : Wr} (hx : l[i]? = some x) :
    badAt l i = (wrBad x || (decide (0 < i) && ordBad l i x.key)) := by unfold badAt; rw [hx]
end Go.Mb
namespace Go.Proofs.Ytkgggioldpnfaaa
open Go.RowKit Go.Mb

set_option maxHeartbeats 4000000 in
set_option maxRecDepth 100000 in
theorem rises_any (B : Nat) (ao : Option Addr) (n cap : Nat) (l : List Wr) (w : World) (h : RdW B w ao n cap l) (hB : B ≤ w.heap.size) :
    Calls Try.prog 41 #[.slice ao n cap] w (fun e w' => e = .returned (.bool (risesB l)) ∧ Below w.heap.size w w') := by
  go_enter Try.func41, Try.ntmps41
  go_wp2_with fail
  go_loopw [3, 4, 7] (fun i a j wr => ∃ k : Nat, j = .int .i64 k ∧ k ≤ n ∧ Hid (Below w.heap.size w wr) ∧ Hid (∀ i, i < k → badAt l i = false)) (fun _ _ j _ => n - (intOf j).toNat)
  case atStart => exact ⟨0, rfl, Nat.zero_le _, Below.refl _ _, fun i hi => absurd hi (Nat.not_lt_zero _)⟩
  case round =>
    obtain ⟨k, rfl, hk, hh, hg⟩ := hrel
    have hcap := h.le
    have hmax := h.max
    unfold maxLen at hmax
    have hlen := h.len
    simp only [List.length_map] at hlen
    by_cases hlt : k < n
    · obtain ⟨b, off, rfl, hb, hc⟩ := h.cells (by omega)
      obtain ⟨x, hx⟩ : ∃ x, l[k]? = some x := ⟨l[k]'(by omega), List.getElem?_eq_getElem _⟩
      obtain ⟨h0, h1, h2⟩ := RdW.at_ (h.below (hh.out.mono hB)) hx rfl
      have hbad := badAt_eq hx
      obtain ⟨kx, vx, gx⟩ := x
      simp only at h0 h1 h2 hbad
      simp only [wrBad] at hbad
      have HB := Lib.hid hbad
      have HL := Lib.hid hlen
      have HX := Lib.hid hx
      have hsz := hh.out.size
      clear hx hbad hc hlen
      have hend : ∀ nq, Below w.heap.size w ((wr.alloc (Obj.cells #[Value.string kx, Value.string vx, Value.bool gx] 31)).drewN nq) := fun nq => hh.out.trans (((Below.refl _ _).alloc hsz _).trans ⟨rfl, rfl, rfl, Nat.le_refl _, fun _ _ => rfl⟩)
      have HE := Lib.hid hend
      clear hend
      by_cases e1 : kx.toList.isEmpty = true
      · go_wp2_with fail
        go_quiet (fail)
        go_wp2_with fail
        go_ret
        exact ⟨ret_bool (risesB_no (by rw [HL.out]; exact hlt) (by rw [HB.out]; simp [e1])).symm, HE.out _⟩
      · have e1' : kx.toList.isEmpty = false := by simpa using e1
        clear e1
        by_cases e2 : (400 : Int) < kx.size
        · go_wp2_with fail
          go_quiet (fail)
          go_wp2_with fail
          go_ret
          exact ⟨ret_bool (risesB_no (by rw [HL.out]; exact hlt) (by rw [HB.out]; simp [e2])).symm, HE.out _⟩
        · have e2' : (kx.size : Int) ≤ 400 := by omega
          have d2 : decide ((400 : Int) < kx.size) = false := by simpa using e2
          clear e2
          by_cases e3 : (4096 : Int) < vx.size
          · go_wp2_with fail
            go_quiet (fail)
            go_wp2_with fail
            go_ret
            exact ⟨ret_bool (risesB_no (by rw [HL.out]; exact hlt) (by rw [HB.out]; simp [e3])).symm, HE.out _⟩
          · have e3' : (vx.size : Int) ≤ 4096 := by omega
            have d3 : decide ((4096 : Int) < vx.size) = false := by simpa using e3
            have hw0 : (gx && !vx.toList.isEmpty) = true → badAt l k = true := fun hz => by rw [HB.out]; simp [hz]
            have HW := Lib.hid hw0
            have HV : Hid ((gx && !vx.toList.isEmpty) = false → badAt l k = (decide (0 < k) && ordBad l k kx)) := fun hz => by
              rw [HB.out]; simp [hz, e1', d2, d3]
            clear hw0 HB e3
            by_cases e4 : (gx && !vx.toList.isEmpty) = true
            · have hb1 := HW.out e4
              have HB1 := Lib.hid hb1
              clear hb1
              simp only [Bool.and_eq_true] at e4
              obtain ⟨rfl, e4⟩ := e4
              go_wp2_with fail
              go_quiet (fail)
              go_wp2_with fail
              go_ret
              exact ⟨ret_bool (risesB_no (by rw [HL.out]; exact hlt) HB1.out).symm, HE.out _⟩
            · have hb1 := HV.out (by simpa using e4)
              have HB1 := Lib.hid hb1
              clear hb1 HV HW
              have h4 : gx = false ∨ gx = true ∧ (!vx.toList.isEmpty) = false := by cases gx <;> simp_all
              clear e4
              rcases h4 with rfl | ⟨rfl, e4⟩
              all_goals
                by_cases hk0 : 0 < k
                · obtain ⟨y, hy⟩ : ∃ y, l[k - 1]? = some y := ⟨l[k - 1]'(by rw [HL.out]; omega), List.getElem?_eq_getElem _⟩
                  obtain ⟨g0, _, _⟩ := RdW.at_ (h.below (hh.out.mono hB)) hy rfl
                  have hb2 : badAt l k = !Op.bytesLess y.key.toList kx.toList := by rw [HB1.out, ordBad_eq hy]; simp [hk0]
                  obtain ⟨ky, vy, gy⟩ := y
                  simp only at g0 hb2
                  have HB2 := Lib.hid hb2
                  have g1 : ∀ o, (wr.alloc o).cell? ⟨b, off + (k - 1) * 3, none⟩ = some (.string ky) := fun o => (World.cell?_alloc_lt _ _ _ (show b < wr.heap.size by omega)).trans g0
                  have d4 : decide ((0 : Int) < (k : Int)) = true := by simpa using hk0
                  have i1 : (0 : Int) ≤ (k : Int) - 1 := by omega
                  have i2 : (k : Int) - 1 < n := by omega
                  have i3 : ((k : Int) - 1).toNat = k - 1 := by omega
                  clear hb2 hy HB1 g0
                  cases hcmp : Op.bytesLess ky.toList kx.toList
                  · go_wp2_with fail
                    go_quiet (fail)
                    go_wp2_with fail
                    go_ret
                    exact ⟨ret_bool (risesB_no (by rw [HL.out]; exact hlt) (by rw [HB2.out, hcmp]; rfl)).symm, HE.out _⟩
                  · go_wp2_with fail
                    go_quiet (fail)
                    go_wp2_with fail
                    go_roundw
                    case rel => exact ⟨k + 1, by go_num, by omega, HE.out _, fun i hi => by
                      rcases Nat.lt_or_ge i k with hlt2 | hge
                      · exact hg.out i hlt2
                      · obtain rfl : i = k := by omega
                        rw [HB2.out, hcmp]; rfl⟩
                    case measure => simp [intOf]; omega
                · have d4 : decide (0 < k) = false := by simpa using hk0
                  have i1 : (k : Int) ≤ 0 := by omega
                  have hb2 : badAt l k = false := by rw [HB1.out]; simp [hk0]
                  have HB2 := Lib.hid hb2
                  clear hb2 HB1 hk0
                  go_wp2_with fail
                  go_quiet (fail)
                  go_wp2_with fail
                  go_roundw
                  case rel => exact ⟨k + 1, by go_num, by omega, HE.out _, fun i hi => by
                    obtain rfl : i = k := by omega
                    exact HB2.out⟩
                  case measure => simp [intOf]; omega
    · obtain rfl : k = n := by omega
      go_wp2_with fail
      go_ret
      exact ⟨ret_bool (risesB_yes (by rw [hlen]; exact hg.out)).symm, hh.out⟩

end Go.Proofs.Ytkgggioldpnfaaa
