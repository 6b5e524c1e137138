/-
  rec.writes, rec.commit: what they lay.
-/
import Derived.Test.YtkgggioldpnfaaaOct
import Derived.Test.YtkgggioldpnfaaaRd
import Derived.Deep.RegionHeld3
import Derived.Deep.RegionWith
import Derived.Deep.DeepMust
namespace Go.Proofs.Ytkgggioldpnfaaa
open Go.RowKit Go.Mb

def wrC (x : Wr) : List Value := textC x.key ++ [bc (if x.gone then 1 else 0)] ++ textC x.val
def writesC (l : List Wr) : List Value := numC l.length ++ l.flatMap wrC

set_option maxHeartbeats 1000000 in
set_option maxRecDepth 100000 in
theorem writes_any (B D : Nat) (v : Value) (xs : List Value) (ao : Option Addr) (n cap : Nat) (l : List Wr) (w : World) (hown : BOwn B v xs w) (hB : B ≤ w.heap.size)
    (h : RdW D w ao n cap l) (hD : D ≤ B) (hbig : (xs ++ writesC l).length ≤ 1000000000) :
    Calls Try.prog 31 #[v, .slice ao n cap] w (Grown5 B (xs ++ writesC l) w) := by
  have hlen := h.len
  simp only [List.length_map] at hlen
  have hmax := h.max
  have hle := h.le
  unfold maxLen at hmax
  have HO := Lib.hid hown
  have HG := Lib.hid hbig
  have hx : xs.length ≤ 1000000000 := by simp at hbig; omega
  have HX := Lib.hid hx
  have HL := Lib.hid hlen
  clear hown hbig hlen hx
  go_enter Try.func31, Try.ntmps31
  go_wp2_with fail
  refine (num_b B v xs n _ HO.out hB HX.out (by omega) (by omega)).mono ?_
  rintro e w1 ⟨v1, rfl, h1, hc1⟩
  have HO1 := Lib.hid h1
  have HC1 := Lib.hid hc1
  clear h1 hc1
  go_wp2_with fail
  go_loopw [0, 6, 13] (fun b a j wr => ∃ k : Nat, j = .int .i64 k ∧ k ≤ n ∧ Hid (BOwn B b (xs ++ numC n ++ (l.take k).flatMap wrC) wr) ∧ Hid (Chg B [5] w wr)) (fun _ _ j _ => n - (intOf j).toNat)
  case atStart => exact ⟨0, rfl, Nat.zero_le _, (by have := HO1.out; simpa using this : BOwn B v1 _ w1), HC1.out⟩
  case round =>
    obtain ⟨k, rfl, hk, ho, hh⟩ := hrel
    by_cases hlt : k < n
    · obtain ⟨b, off, rfl, hb, hc⟩ := h.cells (by omega)
      obtain ⟨x, hx⟩ : ∃ x, l[k]? = some x := ⟨l[k]'(by rw [HL.out]; omega), List.getElem?_eq_getElem _⟩
      obtain ⟨h0, h1, h2⟩ := RdW.at_ (h.below ((hh.out.below hB).mono hD)) hx rfl
      obtain ⟨kx, vx, gx⟩ := x
      simp only at h0 h1 h2
      clear hc
      have HH := Lib.hid h
      have HXK := Lib.hid hx
      clear h hx
      go_wp2_with fail
      obtain ⟨X0, hX0⟩ : ∃ X, X = xs ++ numC n ++ (l.take k).flatMap wrC := ⟨_, rfl⟩
      have hl3 : (X0 ++ textC kx ++ [bc (if gx then 1 else 0)] ++ textC vx).length ≤ 1000000000 := by
        have hg := HG.out
        have hw : (l.take (k + 1)).flatMap wrC = (l.take k).flatMap wrC ++ (textC kx ++ [bc (if gx then 1 else 0)] ++ textC vx) := by
          rw [List.take_add_one, HXK.out]; simp [wrC]
        have hsub : ((l.take (k + 1)).flatMap wrC).length ≤ (l.flatMap wrC).length := by
          conv => rhs; rw [← List.take_append_drop (k + 1) l]
          simp only [List.flatMap_append, List.length_append]; omega
        rw [hw] at hsub
        rw [hX0]
        simp only [writesC, HL.out, List.length_append] at hg hsub ⊢
        omega
      have hl0 : X0.length ≤ 1000000000 := by simp only [List.length_append] at hl3; omega
      have hl1 : (X0 ++ textC kx).length ≤ 1000000000 := by simp only [List.length_append] at hl3 ⊢; omega
      have hl2 : (X0 ++ textC kx ++ [bc (if gx then 1 else 0)]).length ≤ 1000000000 := by simp only [List.length_append] at hl3 ⊢; omega
      have hlk : kx.size ≤ 1000000000 := by simp only [List.length_append, textC_length] at hl3; omega
      have hlv : vx.size ≤ 1000000000 := by simp only [List.length_append, textC_length] at hl3; omega
      obtain ⟨W0, hW0⟩ : ∃ W, W = wr.alloc (Obj.cells #[Value.string kx, Value.string vx, Value.bool gx] 31) := ⟨_, rfl⟩
      obtain ⟨g, hg⟩ : ∃ g, g = wr.heap.size := ⟨_, rfl⟩
      have hblk : Blk W0 g 31 #[Value.string kx, Value.string vx, Value.bool gx] := by rw [hW0, hg]; exact Blk.new _ _ _
      have hB0 : B ≤ W0.heap.size := by rw [hW0]; have := hh.out.size; simp; omega
      have ho0 : BOwn B u0 X0 W0 := by rw [hW0, hX0]; exact ho.out.alloc _
      have hc0 : Chg B [5] w W0 := by rw [hW0]; exact hh.out.trans (Chg.alloc _ _ _ _)
      have c0 : W0.cell? ⟨g, 0, none⟩ = some (.string kx) := hblk.cell 0
      have c1 : W0.cell? ⟨g, 1, none⟩ = some (.string vx) := hblk.cell 1
      have c2 : W0.cell? ⟨g, 2, none⟩ = some (.bool gx) := hblk.cell 2
      rw [← hW0, ← hg]
      have HO0 : Hid (BOwn B u0 X0 W0.drew) := ho0
      have HC0 : Hid (Chg B [5] w W0.drew) := hc0.trans (Chg.drew _ _ _)
      have HK0 : Hid (Blk W0.drew g 31 #[Value.string kx, Value.string vx, Value.bool gx]) := hblk
      have L0 := Lib.hid hl0
      have L1 := Lib.hid hl1
      have L2 := Lib.hid hl2
      have LK := Lib.hid hlk
      have LV := Lib.hid hlv
      have L3 := Lib.hid hX0
      clear ho0 hc0 hblk hl0 hl1 hl2 hl3 hlk hlv hX0 hW0 hg h0 h1 h2 ho
      go_region_held3 (fun w' => w'.cell? ⟨g, 0, none⟩ = some (.string kx) ∧ w'.cell? ⟨g, 1, none⟩ = some (.string vx) ∧ w'.cell? ⟨g, 2, none⟩ = some (.bool gx)) (go_keep)
        ((first
          | (go_at_call_of 53 (Value.string kx); (refine (text_b B u0 X0 kx _ (by exact HO0.out) (by exact hB0) L0.out LK.out).mono ?_; rintro e wa ⟨va, rfl, hoa, hca⟩; have HKa := Lib.hid (HK0.out.chg hca (.inr (by decide))); have ca0 : wa.cell? ⟨g, 0, none⟩ = some (.string kx) := HKa.out.cell 0; have ca1 : wa.cell? ⟨g, 1, none⟩ = some (.string vx) := HKa.out.cell 1; have ca2 : wa.cell? ⟨g, 2, none⟩ = some (.bool gx) := HKa.out.cell 2; have HOa := Lib.hid hoa; have HCa := Lib.hid hca; have hBa := Nat.le_trans hB0 hca.size; clear hoa hca))
          | (go_at_call 54; refine (flag_b B va (X0 ++ textC kx) gx _ (by exact HOa.out) (by exact hBa) L1.out).mono ?_; rintro e wb ⟨vb, rfl, hob, hcb⟩; have HKb := Lib.hid (HKa.out.chg hcb (.inr (by decide))); have cb0 : wb.cell? ⟨g, 0, none⟩ = some (.string kx) := HKb.out.cell 0; have cb1 : wb.cell? ⟨g, 1, none⟩ = some (.string vx) := HKb.out.cell 1; have cb2 : wb.cell? ⟨g, 2, none⟩ = some (.bool gx) := HKb.out.cell 2; have HOb := Lib.hid hob; have HCb := Lib.hid hcb; have hBb := Nat.le_trans hBa hcb.size; clear hob hcb)
          | (go_at_call_of 53 (Value.string vx); refine (text_b B vb (X0 ++ textC kx ++ [bc (if gx then 1 else 0)]) vx _ (by exact HOb.out) (by exact hBb) L2.out LV.out).mono ?_; rintro e wc ⟨vc, rfl, hoc, hcc⟩; have HKc := Lib.hid (HKb.out.chg hcc (.inr (by decide))); have cc0 : wc.cell? ⟨g, 0, none⟩ = some (.string kx) := HKc.out.cell 0; have cc1 : wc.cell? ⟨g, 1, none⟩ = some (.string vx) := HKc.out.cell 1; have cc2 : wc.cell? ⟨g, 2, none⟩ = some (.bool gx) := HKc.out.cell 2; have HOc := Lib.hid hoc; have HCc := Lib.hid hcc; clear hoc hcc)))
      go_wp2_with fail
      go_roundw
      case rel =>
        refine ⟨k + 1, by go_num, by omega, ?_, HC0.out.trans (HCa.out.trans (HCb.out.trans HCc.out))⟩
        have h := HOc.out
        rw [L3.out] at h
        have e : (l.take (k + 1)).flatMap wrC = (l.take k).flatMap wrC ++ (textC kx ++ [bc (if gx then 1 else 0)] ++ textC vx) := by
          rw [List.take_add_one, HXK.out]; simp [wrC]
        rw [e]
        show BOwn B vc _ wc
        simpa [List.append_assoc] using h
      case measure => simp [intOf]; omega
    · obtain rfl : k = n := by omega
      go_wp2_with fail
      go_ret
      have h := ho.out
      rw [← HL.out, List.take_length] at h
      exact ⟨_, rfl, by simpa [writesC, List.append_assoc] using h, hh.out⟩

/-- a commit's encoding -/
def cmC (sq tm : Int) (l : List Wr) : List Value := numC sq.toNat ++ numC tm.toNat ++ writesC l

set_option maxHeartbeats 1000000 in
set_option maxRecDepth 100000 in
theorem commitEnc_any (B D : Nat) (v : Value) (xs : List Value) (sq tm : Int) (ao : Option Addr) (n cap : Nat) (l : List Wr) (w : World) (hown : BOwn B v xs w) (hB : B ≤ w.heap.size)
    (h : RdW D w ao n cap l) (hD : D ≤ B) (hbig : (xs ++ cmC sq tm l).length ≤ 1000000000) (hs0 : 0 ≤ sq) (hs1 : sq ≤ 9223372036854775807) (ht0 : 0 ≤ tm) (ht1 : tm ≤ 9223372036854775807) :
    Calls Try.prog 33 #[v, .agg #[.int .i64 sq, .int .i64 tm, .slice ao n cap]] w (Grown5 B (xs ++ cmC sq tm l) w) := by
  have hl0 : xs.length ≤ 1000000000 := by simp only [List.length_append] at hbig; omega
  have hl1 : (xs ++ numC sq.toNat).length ≤ 1000000000 := by simp only [cmC, List.length_append] at hbig ⊢; omega
  have hl2 : (xs ++ numC sq.toNat ++ numC tm.toNat ++ writesC l).length ≤ 1000000000 := by simp only [cmC, List.length_append] at hbig ⊢; omega
  obtain ⟨W0, hW0⟩ : ∃ W, W = w.alloc (Obj.cells #[.int .i64 sq, .int .i64 tm, .slice ao n cap] 28) := ⟨_, rfl⟩
  obtain ⟨g, hg⟩ : ∃ g, g = w.heap.size := ⟨_, rfl⟩
  have hblk : Blk W0 g 28 #[.int .i64 sq, .int .i64 tm, .slice ao n cap] := by rw [hW0, hg]; exact Blk.new _ _ _
  have HK0 : Hid (Blk W0.drew g 28 #[.int .i64 sq, .int .i64 tm, .slice ao n cap]) := hblk
  have hB0 : B ≤ W0.drew.heap.size := by rw [hW0]; simp; omega
  have HO0 : Hid (BOwn B v xs W0.drew) := by rw [hW0]; exact hown.alloc _
  have HC0 : Hid (Chg B [5] w W0.drew) := by rw [hW0]; exact (Chg.alloc _ _ _ _).trans (Chg.drew _ _ _)
  have HR : Hid (RdW D w ao n cap l) := h
  have c0 : W0.cell? ⟨g, 0, none⟩ = some (.int .i64 sq) := hblk.cell 0
  have c1 : W0.cell? ⟨g, 1, none⟩ = some (.int .i64 tm) := hblk.cell 1
  have c2 : W0.cell? ⟨g, 2, none⟩ = some (.slice ao n cap) := hblk.cell 2
  have L0 := Lib.hid hl0
  have L1 := Lib.hid hl1
  have L2 := Lib.hid hl2
  have S0 := Lib.hid hs0
  have S1 := Lib.hid hs1
  have M0 := Lib.hid ht0
  have M1 := Lib.hid ht1
  have HW := Lib.hid hW0
  have HGG := Lib.hid hg
  clear hblk hl0 hl1 hl2 hs0 hs1 ht0 ht1 hown hbig h hW0 hg
  go_enter Try.func33, Try.ntmps33
  go_wp2_with fail
  rw [← HW.out, ← HGG.out]
  go_region_held3 (fun w' => w'.cell? ⟨g, 0, none⟩ = some (.int .i64 sq) ∧ w'.cell? ⟨g, 1, none⟩ = some (.int .i64 tm) ∧ w'.cell? ⟨g, 2, none⟩ = some (.slice ao n cap)) (go_keep)
    ((first
      | (go_at_call_of 32 (Value.int .i64 sq); refine (num_b B v xs sq _ (by exact HO0.out) (by exact hB0) L0.out S0.out S1.out).mono ?_; rintro e wa ⟨va, rfl, hoa, hca⟩; have HKa := Lib.hid (HK0.out.chg hca (.inr (by decide))); have ca0 : wa.cell? ⟨g, 0, none⟩ = some (.int .i64 sq) := HKa.out.cell 0; have ca1 : wa.cell? ⟨g, 1, none⟩ = some (.int .i64 tm) := HKa.out.cell 1; have ca2 : wa.cell? ⟨g, 2, none⟩ = some (.slice ao n cap) := HKa.out.cell 2; have HOa := Lib.hid hoa; have HCa := Lib.hid hca; have hBa := Nat.le_trans hB0 hca.size; clear hoa hca)
      | (go_at_call_of 32 (Value.int .i64 tm); refine (num_b B va (xs ++ numC sq.toNat) tm _ (by exact HOa.out) (by exact hBa) L1.out M0.out M1.out).mono ?_; rintro e wb ⟨vb, rfl, hob, hcb⟩; have HKb := Lib.hid (HKa.out.chg hcb (.inr (by decide))); have cb0 : wb.cell? ⟨g, 0, none⟩ = some (.int .i64 sq) := HKb.out.cell 0; have cb1 : wb.cell? ⟨g, 1, none⟩ = some (.int .i64 tm) := HKb.out.cell 1; have cb2 : wb.cell? ⟨g, 2, none⟩ = some (.slice ao n cap) := HKb.out.cell 2; have HOb := Lib.hid hob; have HCb := Lib.hid hcb; have hBb := Nat.le_trans hBa hcb.size; clear hob hcb)
      | (go_at_call 31; refine (writes_any B D vb (xs ++ numC sq.toNat ++ numC tm.toNat) ao n cap l _ (by exact HOb.out) (by exact hBb) (by exact HR.out.below (((HC0.out.trans (HCa.out.trans HCb.out)).below hB).mono hD)) hD L2.out).mono ?_; rintro e wc ⟨vc, rfl, hoc, hcc⟩; have HKc := Lib.hid (HKb.out.chg hcc (.inr (by decide))); have cc0 : wc.cell? ⟨g, 0, none⟩ = some (.int .i64 sq) := HKc.out.cell 0; have cc1 : wc.cell? ⟨g, 1, none⟩ = some (.int .i64 tm) := HKc.out.cell 1; have cc2 : wc.cell? ⟨g, 2, none⟩ = some (.slice ao n cap) := HKc.out.cell 2; have HOc := Lib.hid hoc; have HCc := Lib.hid hcc; clear hoc hcc)))
  go_wp2_with fail
  go_ret
  refine ⟨vc, rfl, ?_, HC0.out.trans (HCa.out.trans (HCb.out.trans HCc.out))⟩
  have h := HOc.out
  simpa [cmC, List.append_assoc] using h

end Go.Proofs.Ytkgggioldpnfaaa
