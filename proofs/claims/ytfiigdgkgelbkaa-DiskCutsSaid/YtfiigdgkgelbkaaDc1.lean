/-
  The law DiskCuts: the walk.
-/
import Derived.Test.YtfiigdgkgelbkaaHd4
import Derived.Test.YtfiigdgkgelbkaaBit
namespace Go.Mb
open Go.RowKit
theorem trunc_one {r : Int} {k a : ByteArray} {n z : Int} (h1 : 0 ≤ z) (h2 : z ≤ a.size) : Dk.truncate ⟨r, [⟨k, a, n⟩], false, -1⟩ k z = (0, ⟨r, [⟨k, a.extract 0 z.toNat, min n z⟩], false, -1⟩) := by
  unfold Dk.truncate
  rw [turn_on (by decide)]
  simp only [ne_eq, not_true_eq_false, if_false, look_one]
  rw [if_neg (by omega), put_one]
theorem trunc_bad {r : Int} {k a : ByteArray} {n z : Int} (h : z < 0 ∨ (a.size : Int) < z) : Dk.truncate ⟨r, [⟨k, a, n⟩], false, -1⟩ k z = (1, ⟨r, [⟨k, a, n⟩], false, -1⟩) := by
  unfold Dk.truncate
  rw [turn_on (by decide)]
  simp only [ne_eq, not_true_eq_false, if_false, look_one]
  rw [if_pos h]
end Go.Mb
namespace Go.Proofs.Ytfiigdgkgelbkaa
open Go.RowKit Go.Mb Go.Maps
theorem truncate_eq (S m N : Nat) (d d' : Dk) (c : Int) (k : ByteArray) (z : Int) (w : World) (h : DkAt Try.prog 63 w S m d N) (hN : N ≤ 1000000) (hk : k.size ≤ maxLen) (hr : d.truncate k z = (c, d')) :
    Calls Try.prog 20 #[.pointer (some ⟨S, 0, none⟩), .string k, .int .i64 z] w (fun e w' => e = .returned (.int .i64 c) ∧ DkAt Try.prog 63 w' S m d' N ∧ Tur [S, m] w w') := by
  have := truncate_any S m N d k z w h hN hk
  rw [hr] at this
  exact this

set_option maxHeartbeats 4000000 in
set_option maxRecDepth 100000 in
theorem cuts_any (a b : ByteArray) (cut keep : Int) (w : World) (ha : a.size ≤ maxLen) (hb : b.size ≤ maxLen) (hc : -9223372036854775808 ≤ cut ∧ cut ≤ 9223372036854775807) :
    Calls Try.prog 5 #[.string a, .string b, .int .i64 cut, .int .i64 keep] w (fun e w' => e = .returned (.bool true) ∧ Below w.heap.size w w') := by
  unfold maxLen at ha hb
  have HHD := Lib.hid (head_any w)
  by_cases ha6 : a.size ≤ 60
  · by_cases hb6 : b.size ≤ 60
    · have da : decide ((60 : Int) < a.size) = false := by simp; omega
      have db : decide ((60 : Int) < b.size) = false := by simp; omega
      have e1 : Dk.append ⟨1000, [], false, -1⟩ ⟨#[102]⟩ a = (0, ⟨1000, [⟨⟨#[102]⟩, a, 0⟩], false, -1⟩) := by
        rw [append_on (turn_on (by decide)) nameBad_f (by simp [Dk.free, sumF]; omega), file_none, put_none, empty_app]
      have e2 : Dk.sync ⟨1000, [⟨⟨#[102]⟩, a, 0⟩], false, -1⟩ ⟨#[102]⟩ = (0, ⟨1000, [⟨⟨#[102]⟩, a, a.size⟩], false, -1⟩) := sync_one (by decide)
      have e3 : Dk.append ⟨1000, [⟨⟨#[102]⟩, a, a.size⟩], false, -1⟩ ⟨#[102]⟩ b = (0, ⟨1000, [⟨⟨#[102]⟩, a ++ b, a.size⟩], false, -1⟩) := by
        rw [append_on (turn_on (by decide)) nameBad_f (by simp [Dk.free, sumF]; omega), file_one, put_one]
      have hsz : ((a ++ b).size : Int) = a.size + b.size := by rw [ByteArray.size_append]; omega
      obtain ⟨ab, hab⟩ : ∃ ab, ab = a ++ b := ⟨_, rfl⟩
      rw [← hab] at e3 hsz
      have hnew := new_any 1000 10 w
      have E1 := Lib.hid e1
      have E2 := Lib.hid e2
      have E3 := Lib.hid e3
      have HSZ := Lib.hid hsz
      have habs : ab.size ≤ 120 := by omega
      have HAB := Lib.hid hab.symm
      clear e1 e2 e3 hsz hab
      go_enter Try.func5, Try.ntmps5
      go_wp2_with fail
      refine (HHD.out).mono ?_
      rintro e w0 ⟨rfl, hb0⟩
      have HB0 := Lib.hid hb0
      have HNEW := Lib.hid (new_any 1000 10 w0)
      clear hb0 hnew
      go_wp2_with fail
      refine (HNEW.out).mono ?_
      rintro e w1 ⟨S, m, rfl, h1, hS, hm, hb1⟩
      rw [show Dk.made 1000 = ⟨1000, [], false, -1⟩ from rfl] at h1
      have hs0 := HB0.out.size
      have u1 : ∀ (x y : World), Tur [S, m] x y → w.heap.size ≤ x.heap.size → Below w.heap.size x y := fun _ _ h hs => h.below (by simp; omega) hs
      have UB := Lib.hid u1
      have H1 := Lib.hid h1
      have HB1 := Lib.hid (HB0.out.trans (hb1.mono hs0))
      clear h1 hb1 u1
      go_wp2_with fail
      refine (append_eq S m 10 _ _ _ _ _ w1 H1.out (by decide) (small _ (by decide)) (small _ (by omega)) E1.out).mono ?_
      rintro e w2 ⟨rfl, h2, t2⟩
      have HB2 := Lib.hid (HB1.out.trans (UB.out _ _ t2 HB1.out.size))
      have H2 := Lib.hid h2
      clear h2 t2
      go_wp2_with fail
      refine (sync_eq S m 11 _ _ _ _ w2 H2.out (by decide) (small _ (by decide)) E2.out).mono ?_
      rintro e w3 ⟨rfl, h3, t3⟩
      have HB3 := Lib.hid (HB2.out.trans (UB.out _ _ t3 HB2.out.size))
      have H3 := Lib.hid h3
      clear h3 t3
      go_wp2_with fail
      refine (append_eq S m 11 _ _ _ _ _ w3 H3.out (by decide) (small _ (by decide)) (small _ (by omega)) E3.out).mono ?_
      rintro e w4 ⟨rfl, h4, t4⟩
      have HB4 := Lib.hid (HB3.out.trans (UB.out _ _ t4 HB3.out.size))
      have H4 := Lib.hid h4
      clear h4 t4
      have hcat := HAB.out
      have hsz := HSZ.out
      by_cases hbad : cut < 0 ∨ (ab.size : Int) < cut
      · have e4 := trunc_bad (r := 1000) (k := ⟨#[102]⟩) (a := ab) (n := a.size) hbad
        have e5 : Dk.read ⟨1000, [⟨⟨#[102]⟩, ab, a.size⟩], false, -1⟩ ⟨#[102]⟩ = (ab, 0) := read_one
        have E4 := Lib.hid e4
        have E5 := Lib.hid e5
        clear e4 e5 hsz
        by_cases hneg : cut < 0
        all_goals
          try have hbig : (ab.size : Int) < cut := by omega
          try have hnn : ¬ cut < 0 := by omega
          clear hbad
          go_wp2_with fail
          refine (truncate_eq S m 12 _ _ _ _ _ w4 H4.out (by decide) (small _ (by decide)) E4.out).mono ?_
          rintro e w5 ⟨rfl, h5, t5⟩
          have HB5 := Lib.hid (HB4.out.trans (UB.out _ _ t5 HB4.out.size))
          have H5 := Lib.hid h5
          clear h5 t5
          go_wp2_with fail
          refine (read_eq S m 12 _ _ _ _ w5 H5.out (small _ (by decide)) E5.out).mono ?_
          rintro e w6 ⟨rfl, h6⟩
          have HB6 := Lib.hid (HB5.out.trans (h6.mono HB5.out.size))
          clear h6
          go_wp2_with fail
          go_ret
          exact ⟨rfl, HB6.out⟩
      · have hc0 : 0 ≤ cut := by omega
        have hc1 : cut ≤ ab.size := by omega
        have hand : bits .and .i64 keep 255 = keep % 256 := and_255 keep
        obtain ⟨kk, hkk⟩ : ∃ kk, kk = keep % 256 := ⟨_, rfl⟩
        rw [← hkk] at hand
        have hk0 : 0 ≤ kk ∧ kk ≤ 255 := by omega
        obtain ⟨k0, k1⟩ := hk0
        obtain ⟨sf, hsfm⟩ : ∃ sf, min (a.size : Int) cut = sf := ⟨_, rfl⟩
        obtain ⟨mm, hmm⟩ : ∃ mm, min cut (sf + kk) = mm := ⟨_, rfl⟩
        have hs0 : 0 ≤ sf ∧ sf ≤ cut ∧ sf ≤ 60 := by omega
        have hm0 : sf ≤ mm ∧ mm ≤ cut := by omega
        have e4 := trunc_one (r := 1000) (k := ⟨#[102]⟩) (a := ab) (n := a.size) hc0 hc1
        rw [hsfm] at e4
        have e5 : Dk.read ⟨1000, [⟨⟨#[102]⟩, ab.extract 0 cut.toNat, sf⟩], false, -1⟩ ⟨#[102]⟩ = (ab.extract 0 cut.toNat, 0) := read_one
        have hkn : keptN ⟨⟨#[102]⟩, ab.extract 0 cut.toNat, sf⟩ [kk] 0 = mm := by
          have hx : ((ab.extract 0 cut.toNat).size : Int) = cut := by rw [ByteArray.size_extract]; omega
          show sf + min (max kk 0) (((ab.extract 0 cut.toNat).size : Int) - sf) = mm
          rw [hx]; omega
        have hex : (ab.extract 0 cut.toNat).extract 0 mm.toNat = ab.extract 0 mm.toNat := by
          rw [ByteArray.extract_extract]
          congr 1
          omega
        have e6 : Dk.crash ⟨1000, [⟨⟨#[102]⟩, ab.extract 0 cut.toNat, sf⟩], false, -1⟩ [kk] = ⟨1000, [⟨⟨#[102]⟩, ab.extract 0 mm.toNat, mm⟩], false, -1⟩ := by
          rw [crash_one]
          unfold keptF
          rw [hkn, hex]
        have e7 : Dk.read ⟨1000, [⟨⟨#[102]⟩, ab.extract 0 mm.toNat, mm⟩], false, -1⟩ ⟨#[102]⟩ = (ab.extract 0 mm.toNat, 0) := read_one
        have E4 := Lib.hid e4
        have E5 := Lib.hid e5
        have E6 := Lib.hid e6
        have E7 := Lib.hid e7
        obtain ⟨g0, g1, g2⟩ := hs0
        obtain ⟨m0, m1⟩ := hm0
        have hm00 : 0 ≤ mm := by omega
        have hm11 : mm ≤ ab.size := by omega
        have hnn : decide (cut < 0) = false := by simp; omega
        have hnb : decide ((ab.size : Int) < cut) = false := by simp; omega
        clear e4 e5 e6 e7 hsz hbad hkn hex hkk hcat
        have hcat := HAB.out
        go_wp2_with fail
        refine (truncate_eq S m 12 _ _ _ _ _ w4 H4.out (by decide) (small _ (by decide)) E4.out).mono ?_
        rintro e w5 ⟨rfl, h5, t5⟩
        have HB5 := Lib.hid (HB4.out.trans (UB.out _ _ t5 HB4.out.size))
        have H5 := Lib.hid h5
        clear h5 t5
        go_wp2_with fail
        refine (read_eq S m 12 _ _ _ _ w5 H5.out (small _ (by decide)) E5.out).mono ?_
        rintro e w6 ⟨rfl, h6⟩
        have HB6 := Lib.hid (HB5.out.trans (h6.mono HB5.out.size))
        have H6 := Lib.hid (H5.out.below h6)
        clear h6
        go_wp2_with fail
        refine (crash_eq S m 12 _ _ _ 1 1 [kk] _ (H6.out.below ((Below.refl _ _).alloc (Nat.le_refl _) _)) (by decide) (rdN_new w6 kk _) E6.out).mono ?_
        rintro e w7 ⟨S', m', rfl, h7, hS', hm', hb7⟩
        have HB7 := Lib.hid (HB6.out.trans ((((Below.refl _ w6).alloc (Nat.le_refl _) (.cells #[.int .i64 kk] 3)).trans (hb7.mono (by simp))).mono HB6.out.size))
        have H7 := Lib.hid h7
        clear h7 hb7
        go_wp2_with fail
        refine (read_eq S' m' 12 _ _ _ _ w7 H7.out (small _ (by decide)) E7.out).mono ?_
        rintro e w8 ⟨rfl, h8⟩
        have HB8 := Lib.hid (HB7.out.trans (h8.mono HB7.out.size))
        clear h8
        go_wp2_with fail
        go_ret
        exact ⟨rfl, HB8.out⟩
    · have db : (60 : Int) < b.size := by omega
      have da : ¬ (60 : Int) < a.size := by omega
      go_enter Try.func5, Try.ntmps5
      go_wp2_with fail
      refine (HHD.out).mono ?_
      rintro e w0 ⟨rfl, hb0⟩
      go_wp2_with fail
      go_ret
      exact ⟨rfl, hb0⟩
  · have da : (60 : Int) < a.size := by omega
    go_enter Try.func5, Try.ntmps5
    go_wp2_with fail
    refine (HHD.out).mono ?_
    rintro e w0 ⟨rfl, hb0⟩
    go_wp2_with fail
    go_ret
    exact ⟨rfl, hb0⟩
end Go.Proofs.Ytfiigdgkgelbkaa
