/-
  The law DiskMoves: the walk.
-/
import Derived.Test.YtfiigdgkgelbkaaHd4
import Derived.Test.YtfiigdgkgelbkaaBit
namespace Go.Mb
open Go.RowKit
def nx : ByteArray := ⟨#[120]⟩
def ny : ByteArray := ⟨#[121]⟩
theorem xy_lt : ltK nx ny = true := by unfold ltK; rw [Lib.toList_data, Lib.toList_data]; rfl
theorem yx_lt : ltK ny nx = false := ltK_asymm xy_lt
theorem xy_ne : nx ≠ ny := by decide
theorem yx_ne : ny ≠ nx := by decide
theorem nameBad_x : nameBad nx = false := by rw [nameBad_iff, Lib.toList_data]; exact ⟨rfl, by decide⟩
theorem nameBad_y : nameBad ny = false := by rw [nameBad_iff, Lib.toList_data]; exact ⟨rfl, by decide⟩
theorem put_xy {a b : ByteArray} {n k : Int} : putF [⟨nx, a, n⟩] ⟨ny, b, k⟩ = [⟨nx, a, n⟩, ⟨ny, b, k⟩] := by
  simp [putF, delF, insF, xy_ne, yx_lt]
theorem put_yx {a b : ByteArray} {n k : Int} : putF [⟨ny, b, k⟩] ⟨nx, a, n⟩ = [⟨nx, a, n⟩, ⟨ny, b, k⟩] := by
  simp [putF, delF, insF, yx_ne, xy_lt]
theorem put_y2 {a b c : ByteArray} {n k j : Int} : putF [⟨nx, a, n⟩, ⟨ny, b, k⟩] ⟨ny, c, j⟩ = [⟨nx, a, n⟩, ⟨ny, c, j⟩] := by
  simp [putF, delF, insF, xy_ne, yx_lt]
theorem look_x2 {a b : ByteArray} {n k : Int} : lookF [⟨nx, a, n⟩, ⟨ny, b, k⟩] nx = some ⟨nx, a, n⟩ := by simp [lookF]
theorem look_y2 {a b : ByteArray} {n k : Int} : lookF [⟨nx, a, n⟩, ⟨ny, b, k⟩] ny = some ⟨ny, b, k⟩ := by simp [lookF, xy_ne]
theorem look_yx {a : ByteArray} {n : Int} : lookF [⟨ny, a, n⟩] nx = none := by simp [lookF, yx_ne]
theorem look_xy {a : ByteArray} {n : Int} : lookF [⟨nx, a, n⟩] ny = none := by simp [lookF, xy_ne]
theorem del_x2 {a b : ByteArray} {n k : Int} : delF [⟨nx, a, n⟩, ⟨ny, b, k⟩] nx = [⟨ny, b, k⟩] := by simp [delF, yx_ne]
theorem rename_on {d d' : Dk} {k k' : ByteArray} {f : Fl} (ht : d.turn = (0, d')) (hn : nameBad k' = false) (hl : lookF d'.fs k = some f) : d.rename k k' = (0, { d' with fs := putF (delF d'.fs k) ⟨k', f.data, f.safe⟩ }) := by
  unfold Dk.rename
  rw [ht]
  simp only [ne_eq, not_true_eq_false, if_false, hn, Bool.false_eq_true, hl]
theorem rename_none {d d' : Dk} {k k' : ByteArray} (ht : d.turn = (0, d')) (hn : nameBad k' = false) (hl : lookF d'.fs k = none) : d.rename k k' = (5, d') := by
  unfold Dk.rename
  rw [ht]
  simp only [ne_eq, not_true_eq_false, if_false, hn, Bool.false_eq_true, hl]
theorem sync_on {d d' : Dk} {k : ByteArray} {f : Fl} (ht : d.turn = (0, d')) (hl : lookF d'.fs k = some f) : d.sync k = (0, { d' with fs := putF d'.fs ⟨k, f.data, f.data.size⟩ }) := by
  unfold Dk.sync
  rw [ht]
  simp only [ne_eq, not_true_eq_false, if_false, hl]
theorem keptF_nil {k a : ByteArray} {n : Int} {i : Nat} : keptF ⟨k, a, n⟩ [] i = ⟨k, a.extract 0 n.toNat, n⟩ := by
  simp [keptF, keptN]
theorem rdN_nil (B : Nat) (w : World) : RdN B w none 0 0 [] := ⟨rfl, Nat.le_refl _, Nat.zero_le _, by simp, fun h => absurd h (Nat.lt_irrefl _)⟩
end Go.Mb
namespace Go.Proofs.Ytfiigdgkgelbkaa
open Go.RowKit Go.Mb Go.Maps
theorem rename_eq (S m N : Nat) (d d' : Dk) (c : Int) (k k' : ByteArray) (w : World) (h : DkAt Try.prog 63 w S m d N) (hN : N ≤ 1000000) (hk : k.size ≤ maxLen) (hk' : k'.size ≤ maxLen) (hr : d.rename k k' = (c, d')) :
    Calls Try.prog 21 #[.pointer (some ⟨S, 0, none⟩), .string k, .string k'] w (fun e w' => e = .returned (.int .i64 c) ∧ DkAt Try.prog 63 w' S m d' N ∧ Tur [S, m] w w') := by
  have := rename_any S m N d k k' w h hN hk hk'
  rw [hr] at this
  exact this

set_option maxHeartbeats 4000000 in
set_option maxRecDepth 100000 in
theorem moves_any (a b : ByteArray) (safe : Int) (same : Bool) (w : World) (ha : a.size ≤ maxLen) (hb : b.size ≤ maxLen) :
    Calls Try.prog 6 #[.string a, .string b, .int .i64 safe, .bool same] w (fun e w' => e = .returned (.bool true) ∧ Below w.heap.size w w') := by
  unfold maxLen at ha hb
  have HHD := Lib.hid (head_any w)
  by_cases ha6 : a.size ≤ 60
  · by_cases hb6 : b.size ≤ 60
    · have da : decide ((60 : Int) < a.size) = false := by simp; omega
      have db : decide ((60 : Int) < b.size) = false := by simp; omega
      have hand : bits .and .i64 safe 255 = safe % 256 := and_255 safe
      obtain ⟨ss, hss⟩ : ∃ ss, ss = safe % 256 := ⟨_, rfl⟩
      rw [← hss] at hand
      have hs0 : 0 ≤ ss ∧ ss ≤ 255 := by omega
      obtain ⟨s0, s1⟩ := hs0
      clear hss
      obtain ⟨sf, hsf⟩ : ∃ sf : Nat, ss % ((a.size : Int) + 1) = sf := ⟨(ss % ((a.size : Int) + 1)).toNat, by have := Int.emod_nonneg ss (show (a.size : Int) + 1 ≠ 0 by omega); omega⟩
      have hsl : sf ≤ a.size := by have := Int.emod_lt_of_pos ss (show 0 < (a.size : Int) + 1 by omega); omega
      have htm : ss.tmod ((a.size : Int) + 1) = sf := by rw [Int.tmod_eq_emod_of_nonneg s0]; exact hsf
      go_enter Try.func6, Try.ntmps6
      go_wp2_with fail
      refine (HHD.out).mono ?_
      rintro e w0 ⟨rfl, hb0⟩
      have HB0 := Lib.hid hb0
      have HNEW := Lib.hid (new_any 1000 10 w0)
      clear hb0
      go_wp2_with fail
      refine (HNEW.out).mono ?_
      rintro e w1 ⟨S, m, rfl, h1, hS, hm, hb1⟩
      rw [show Dk.made 1000 = ⟨1000, [], false, -1⟩ from rfl] at h1
      have hs0 := HB0.out.size
      have u1 : ∀ (x y : World), Tur [S, m] x y → w.heap.size ≤ x.heap.size → Below w.heap.size x y := fun _ _ h hs => h.below (by simp; omega) hs
      have UB := Lib.hid u1
      have H1 := Lib.hid h1
      have HB1 := Lib.hid (HB0.out.trans (hb1.mono hs0))
      clear h1 hb1 u1
      have hsz1 : (a.extract 0 sf).size = sf := by rw [ByteArray.size_extract]; omega
      have hsz2 : (a.extract sf a.size).size = a.size - sf := by rw [ByteArray.size_extract]; omega
      have hcat : a.extract 0 sf ++ a.extract sf a.size = a := by rw [ByteArray.extract_append_extract]; simp [hsl]
      have e1 : Dk.append ⟨1000, [], false, -1⟩ nx (a.extract 0 sf) = (0, ⟨1000, [⟨nx, a.extract 0 sf, 0⟩], false, -1⟩) := by
        rw [append_on (turn_on (by decide)) nameBad_x (by simp [Dk.free, sumF]; omega), file_none, put_none, empty_app]
      have e2 : Dk.sync ⟨1000, [⟨nx, a.extract 0 sf, 0⟩], false, -1⟩ nx = (0, ⟨1000, [⟨nx, a.extract 0 sf, sf⟩], false, -1⟩) := by
        rw [sync_one (by decide), hsz1]
      have e3 : Dk.append ⟨1000, [⟨nx, a.extract 0 sf, sf⟩], false, -1⟩ nx (a.extract sf a.size) = (0, ⟨1000, [⟨nx, a, sf⟩], false, -1⟩) := by
        rw [append_on (turn_on (by decide)) nameBad_x (by simp [Dk.free, sumF]; omega), file_one, put_one, hcat]
      have e4 : Dk.append ⟨1000, [⟨nx, a, sf⟩], false, -1⟩ ny b = (0, ⟨1000, [⟨nx, a, sf⟩, ⟨ny, b, 0⟩], false, -1⟩) := by
        rw [append_on (turn_on (by decide)) nameBad_y (by simp [Dk.free, sumF]; omega)]
        unfold Dk.file
        rw [look_xy]
        simp only [Option.getD_none, put_xy, empty_app]
      have e5 : Dk.sync ⟨1000, [⟨nx, a, sf⟩, ⟨ny, b, 0⟩], false, -1⟩ ny = (0, ⟨1000, [⟨nx, a, sf⟩, ⟨ny, b, b.size⟩], false, -1⟩) := by
        rw [sync_on (turn_on (by decide)) look_y2, put_y2]
      have E1 := Lib.hid e1
      have E2 := Lib.hid e2
      have E3 := Lib.hid e3
      have E4 := Lib.hid e4
      have E5 := Lib.hid e5
      have l1 : (a.extract 0 sf).size ≤ 60 := by omega
      have l2 : (a.extract sf a.size).size ≤ 60 := by omega
      have L1 := Lib.hid l1
      have L2 := Lib.hid l2
      clear e1 e2 e3 e4 e5 hsz1 hsz2 hcat l1 l2
      go_wp2_with fail
      refine (append_eq S m 10 _ _ _ nx _ w1 H1.out (by decide) (small _ (by decide)) (small _ (Nat.le_trans L1.out (by decide))) E1.out).mono ?_
      rintro e w2 ⟨rfl, h2, t2⟩
      have HB2 := Lib.hid (HB1.out.trans (UB.out _ _ t2 HB1.out.size))
      have H2 := Lib.hid h2
      clear h2 t2
      go_wp2_with fail
      refine (sync_eq S m 11 _ _ _ nx w2 H2.out (by decide) (small _ (by decide)) E2.out).mono ?_
      rintro e w3 ⟨rfl, h3, t3⟩
      have HB3 := Lib.hid (HB2.out.trans (UB.out _ _ t3 HB2.out.size))
      have H3 := Lib.hid h3
      clear h3 t3
      go_wp2_with fail
      refine (append_eq S m 11 _ _ _ nx _ w3 H3.out (by decide) (small _ (by decide)) (small _ (Nat.le_trans L2.out (by decide))) E3.out).mono ?_
      rintro e w4 ⟨rfl, h4, t4⟩
      have HB4 := Lib.hid (HB3.out.trans (UB.out _ _ t4 HB3.out.size))
      have H4 := Lib.hid h4
      clear h4 t4
      go_wp2_with fail
      refine (append_eq S m 12 _ _ _ ny _ w4 H4.out (by decide) (small _ (by decide)) (small _ (by omega)) E4.out).mono ?_
      rintro e w5 ⟨rfl, h5, t5⟩
      have HB5 := Lib.hid (HB4.out.trans (UB.out _ _ t5 HB4.out.size))
      have H5 := Lib.hid h5
      clear h5 t5
      go_wp2_with fail
      refine (sync_eq S m 13 _ _ _ ny w5 H5.out (by decide) (small _ (by decide)) E5.out).mono ?_
      rintro e w6 ⟨rfl, h6, t6⟩
      have HB6 := Lib.hid (HB5.out.trans (UB.out _ _ t6 HB5.out.size))
      have H6 := Lib.hid h6
      clear h6 t6
      cases same with
      | true =>
        have e6 : Dk.rename ⟨1000, [⟨nx, a, sf⟩, ⟨ny, b, b.size⟩], false, -1⟩ nx nx = (0, ⟨1000, [⟨nx, a, sf⟩, ⟨ny, b, b.size⟩], false, -1⟩) := by
          rw [rename_on (turn_on (by decide)) nameBad_x look_x2, del_x2, put_yx]
        have e7 : Dk.read ⟨1000, [⟨nx, a, sf⟩, ⟨ny, b, b.size⟩], false, -1⟩ nx = (a, 0) := by simp [Dk.read, look_x2]
        have e8 : Dk.crash ⟨1000, [⟨nx, a, sf⟩, ⟨ny, b, b.size⟩], false, -1⟩ [] = ⟨1000, [⟨nx, a.extract 0 sf, sf⟩, ⟨ny, b.extract 0 b.size, b.size⟩], false, -1⟩ := by
          show (⟨1000, [keptF _ _ 0, keptF _ _ 1], false, -1⟩ : Dk) = _
          rw [keptF_nil, keptF_nil]; simp
        have e9 : Dk.read ⟨1000, [⟨nx, a.extract 0 sf, sf⟩, ⟨ny, b.extract 0 b.size, b.size⟩], false, -1⟩ nx = (a.extract 0 sf, 0) := by simp [Dk.read, look_x2]
        have e10 : Dk.read ⟨1000, [⟨nx, a, sf⟩, ⟨ny, b, b.size⟩], false, -1⟩ nx = (a, 0) := by simp [Dk.read, look_x2]
        have e11 : Dk.rename ⟨1000, [⟨nx, a, sf⟩, ⟨ny, b, b.size⟩], false, -1⟩ ⟨#[110, 111, 110, 101]⟩ ⟨#[122]⟩ = (5, ⟨1000, [⟨nx, a, sf⟩, ⟨ny, b, b.size⟩], false, -1⟩) := by
          refine rename_none (turn_on (by decide)) (by rw [nameBad_iff, Lib.toList_data]; exact ⟨rfl, by decide⟩) ?_
          simp [lookF, nx, ny]
        have E6 := Lib.hid e6
        have E7 := Lib.hid e7
        have E8 := Lib.hid e8
        have E9 := Lib.hid e9
        have E10 := Lib.hid e10
        have E11 := Lib.hid e11
        clear e6 e7 e8 e9 e10 e11
        go_wp2_with fail
        refine (rename_eq S m 13 _ _ _ nx nx w6 H6.out (by decide) (small _ (by decide)) (small _ (by decide)) E6.out).mono ?_
        rintro e w7 ⟨rfl, h7, t7⟩
        have HB7 := Lib.hid (HB6.out.trans (UB.out _ _ t7 HB6.out.size))
        have H7 := Lib.hid h7
        clear h7 t7
        go_wp2_with fail
        refine (read_eq S m 13 _ _ nx _ w7 H7.out (small _ (by decide)) E7.out).mono ?_
        rintro e w8 ⟨rfl, h8⟩
        have HB8 := Lib.hid (HB7.out.trans (h8.mono HB7.out.size))
        have H8 := Lib.hid (H7.out.below h8)
        clear h8
        go_wp2_with fail
        refine (crash_eq S m 13 _ _ none 0 0 [] w8 H8.out (by decide) (rdN_nil _ _) E8.out).mono ?_
        rintro e w9 ⟨S', m', rfl, h9, hS', hm', hb9⟩
        have HB9 := Lib.hid (HB8.out.trans (hb9.mono HB8.out.size))
        have H9 := Lib.hid h9
        have H9o := Lib.hid (H8.out.below hb9)
        clear h9 hb9
        go_wp2_with fail
        refine (read_eq S' m' 13 _ _ nx _ w9 H9.out (small _ (by decide)) E9.out).mono ?_
        rintro e w10 ⟨rfl, h10⟩
        have HB10 := Lib.hid (HB9.out.trans (h10.mono HB9.out.size))
        have H10 := Lib.hid (H9o.out.below h10)
        clear h10
        go_wp2_with fail
        refine (read_eq S m 13 _ _ nx _ w10 H10.out (small _ (by decide)) E10.out).mono ?_
        rintro e w11 ⟨rfl, h11⟩
        have HB11 := Lib.hid (HB10.out.trans (h11.mono HB10.out.size))
        have H11 := Lib.hid (H10.out.below h11)
        clear h11
        go_wp2_with fail
        refine (rename_eq S m 13 _ _ _ ⟨#[110, 111, 110, 101]⟩ ⟨#[122]⟩ w11 H11.out (by decide) (small _ (by decide)) (small _ (by decide)) E11.out).mono ?_
        rintro e w12 ⟨rfl, h12, t12⟩
        have HB12 := Lib.hid (HB11.out.trans (UB.out _ _ t12 HB11.out.size))
        clear h12 t12
        go_wp2_with fail
        go_ret
        exact ⟨rfl, HB12.out⟩
      | false =>
        have e6 : Dk.rename ⟨1000, [⟨nx, a, sf⟩, ⟨ny, b, b.size⟩], false, -1⟩ nx ny = (0, ⟨1000, [⟨ny, a, sf⟩], false, -1⟩) := by
          rw [rename_on (turn_on (by decide)) nameBad_y look_x2, del_x2, put_one]
        have e7 : Dk.read ⟨1000, [⟨ny, a, sf⟩], false, -1⟩ ny = (a, 0) := by simp [Dk.read, look_one]
        have e8 : Dk.crash ⟨1000, [⟨ny, a, sf⟩], false, -1⟩ [] = ⟨1000, [⟨ny, a.extract 0 sf, sf⟩], false, -1⟩ := by
          rw [crash_one, keptF_nil]; simp
        have e9 : Dk.read ⟨1000, [⟨ny, a.extract 0 sf, sf⟩], false, -1⟩ ny = (a.extract 0 sf, 0) := by simp [Dk.read, look_one]
        have e10 : Dk.read ⟨1000, [⟨ny, a, sf⟩], false, -1⟩ nx = (⟨#[]⟩, 5) := by simp [Dk.read, look_yx]
        have e11 : Dk.rename ⟨1000, [⟨ny, a, sf⟩], false, -1⟩ ⟨#[110, 111, 110, 101]⟩ ⟨#[122]⟩ = (5, ⟨1000, [⟨ny, a, sf⟩], false, -1⟩) := by
          refine rename_none (turn_on (by decide)) (by rw [nameBad_iff, Lib.toList_data]; exact ⟨rfl, by decide⟩) ?_
          simp [lookF, ny]
        have E6 := Lib.hid e6
        have E7 := Lib.hid e7
        have E8 := Lib.hid e8
        have E9 := Lib.hid e9
        have E10 := Lib.hid e10
        have E11 := Lib.hid e11
        clear e6 e7 e8 e9 e10 e11
        go_wp2_with fail
        refine (rename_eq S m 13 _ _ _ nx ny w6 H6.out (by decide) (small _ (by decide)) (small _ (by decide)) E6.out).mono ?_
        rintro e w7 ⟨rfl, h7, t7⟩
        have HB7 := Lib.hid (HB6.out.trans (UB.out _ _ t7 HB6.out.size))
        have H7 := Lib.hid h7
        clear h7 t7
        go_wp2_with fail
        refine (read_eq S m 13 _ _ ny _ w7 H7.out (small _ (by decide)) E7.out).mono ?_
        rintro e w8 ⟨rfl, h8⟩
        have HB8 := Lib.hid (HB7.out.trans (h8.mono HB7.out.size))
        have H8 := Lib.hid (H7.out.below h8)
        clear h8
        go_wp2_with fail
        refine (crash_eq S m 13 _ _ none 0 0 [] w8 H8.out (by decide) (rdN_nil _ _) E8.out).mono ?_
        rintro e w9 ⟨S', m', rfl, h9, hS', hm', hb9⟩
        have HB9 := Lib.hid (HB8.out.trans (hb9.mono HB8.out.size))
        have H9 := Lib.hid h9
        have H9o := Lib.hid (H8.out.below hb9)
        clear h9 hb9
        go_wp2_with fail
        refine (read_eq S' m' 13 _ _ ny _ w9 H9.out (small _ (by decide)) E9.out).mono ?_
        rintro e w10 ⟨rfl, h10⟩
        have HB10 := Lib.hid (HB9.out.trans (h10.mono HB9.out.size))
        have H10 := Lib.hid (H9o.out.below h10)
        clear h10
        go_wp2_with fail
        refine (read_eq S m 13 _ _ nx _ w10 H10.out (small _ (by decide)) E10.out).mono ?_
        rintro e w11 ⟨rfl, h11⟩
        have HB11 := Lib.hid (HB10.out.trans (h11.mono HB10.out.size))
        have H11 := Lib.hid (H10.out.below h11)
        clear h11
        go_wp2_with fail
        refine (rename_eq S m 13 _ _ _ ⟨#[110, 111, 110, 101]⟩ ⟨#[122]⟩ w11 H11.out (by decide) (small _ (by decide)) (small _ (by decide)) E11.out).mono ?_
        rintro e w12 ⟨rfl, h12, t12⟩
        have HB12 := Lib.hid (HB11.out.trans (UB.out _ _ t12 HB11.out.size))
        clear h12 t12
        go_wp2_with fail
        go_ret
        exact ⟨rfl, HB12.out⟩
    · have db : (60 : Int) < b.size := by omega
      have da : ¬ (60 : Int) < a.size := by omega
      go_enter Try.func6, Try.ntmps6
      go_wp2_with fail
      refine (HHD.out).mono ?_
      rintro e w0 ⟨rfl, hb0⟩
      go_wp2_with fail
      go_ret
      exact ⟨rfl, hb0⟩
  · have da : (60 : Int) < a.size := by omega
    go_enter Try.func6, Try.ntmps6
    go_wp2_with fail
    refine (HHD.out).mono ?_
    rintro e w0 ⟨rfl, hb0⟩
    go_wp2_with fail
    go_ret
    exact ⟨rfl, hb0⟩
end Go.Proofs.Ytfiigdgkgelbkaa
