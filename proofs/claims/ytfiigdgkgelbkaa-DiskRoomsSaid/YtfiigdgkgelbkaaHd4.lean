/-
  The document's example of the disk (head); what the disk's functions come to where there is one file.
-/
import Derived.Test.YtfiigdgkgelbkaaDk9
namespace Go.Mb
open Go.RowKit
theorem empty_app (s : ByteArray) : (⟨#[]⟩ : ByteArray) ++ s = s := by
  apply ByteArray.ext
  show (ByteArray.append _ _).data = _
  simp [ByteArray.append]
theorem DkAt.tight {P : Program} {tS : TypeId} {w : World} {S m : Nat} {d : Dk} {N N' : Nat} (h : DkAt P tS w S m d N) (hN : d.fs.length ≤ N') : DkAt P tS w S m d N' :=
  ⟨h.blk, h.own, ⟨h.ok.room, h.ok.srt, h.ok.safe, h.ok.fits, hN, h.ok.fall, h.ok.names⟩⟩
theorem turn_on {r : Int} {fs : List Fl} {fall : Int} (h : fall < 0) : Dk.turn ⟨r, fs, false, fall⟩ = (0, ⟨r, fs, false, fall⟩) := by
  unfold Dk.turn
  simp only [Bool.false_eq_true, if_false]
  rw [if_neg (by omega), if_neg (by omega)]
theorem turn_left {r : Int} {fs : List Fl} {fall : Int} (h : 0 < fall) : Dk.turn ⟨r, fs, false, fall⟩ = (0, ⟨r, fs, false, fall - 1⟩) := by
  unfold Dk.turn
  simp only [Bool.false_eq_true, if_false]
  rw [if_neg (by omega), if_pos h]
theorem append_on {d d' : Dk} {k s : ByteArray} (ht : d.turn = (0, d')) (hn : nameBad k = false) (hf : (s.size : Int) ≤ d'.free) : d.append k s = (0, { d' with fs := putF d'.fs ⟨k, (d'.file k).data ++ s, (d'.file k).safe⟩ }) := by
  unfold Dk.append
  rw [ht]
  simp only [ne_eq, not_true_eq_false, if_false, hn, Bool.false_eq_true]
  rw [if_neg (by omega)]
theorem append_off {d d' : Dk} {k s : ByteArray} (ht : d.turn = (8, d')) : d.append k s = (8, d') := by
  unfold Dk.append
  rw [ht]; rfl
theorem file_none {r : Int} {dn : Bool} {fall : Int} {k : ByteArray} : Dk.file ⟨r, [], dn, fall⟩ k = ⟨k, ⟨#[]⟩, 0⟩ := rfl
theorem look_one {k a : ByteArray} {n : Int} : lookF [⟨k, a, n⟩] k = some ⟨k, a, n⟩ := by simp [lookF]
theorem file_one {r : Int} {dn : Bool} {fall : Int} {k a : ByteArray} {n : Int} : Dk.file ⟨r, [⟨k, a, n⟩], dn, fall⟩ k = ⟨k, a, n⟩ := by
  unfold Dk.file
  rw [look_one]; rfl
theorem put_none {f : Fl} : putF [] f = [f] := rfl
theorem put_one {k a a' : ByteArray} {n n' : Int} : putF [⟨k, a, n⟩] ⟨k, a', n'⟩ = [⟨k, a', n'⟩] := by simp [putF, delF, insF]
theorem sum_one {f : Fl} : sumF [f] = f.data.size := by simp [sumF]
theorem crash_one {r : Int} {dn : Bool} {fall : Int} {f : Fl} {keep : List Int} : Dk.crash ⟨r, [f], dn, fall⟩ keep = ⟨r, [keptF f keep 0], false, -1⟩ := rfl
theorem crash_none {r : Int} {dn : Bool} {fall : Int} {keep : List Int} : Dk.crash ⟨r, [], dn, fall⟩ keep = ⟨r, [], false, -1⟩ := rfl
theorem read_one {r : Int} {fall : Int} {k a : ByteArray} {n : Int} : Dk.read ⟨r, [⟨k, a, n⟩], false, fall⟩ k = (a, 0) := by
  unfold Dk.read
  rw [look_one]; rfl
theorem read_none {r : Int} {fall : Int} {k : ByteArray} : Dk.read ⟨r, [], false, fall⟩ k = (⟨#[]⟩, 5) := rfl
theorem sync_one {r : Int} {fall : Int} {k a : ByteArray} {n : Int} (h : fall < 0) : Dk.sync ⟨r, [⟨k, a, n⟩], false, fall⟩ k = (0, ⟨r, [⟨k, a, a.size⟩], false, fall⟩) := by
  unfold Dk.sync
  rw [turn_on h]
  simp only [ne_eq, not_true_eq_false, if_false, look_one, put_one]
theorem nameBad_f : nameBad ⟨#[102]⟩ = false := by
  rw [nameBad_iff, Lib.toList_data]
  exact ⟨rfl, by decide⟩
end Go.Mb
namespace Go.Proofs.Ytfiigdgkgelbkaa
open Go.RowKit Go.Mb Go.Maps

theorem append_eq (S m N : Nat) (d d' : Dk) (c : Int) (k s : ByteArray) (w : World) (h : DkAt Try.prog 63 w S m d N) (hN : N ≤ 1000000) (hk : k.size ≤ maxLen) (hs : s.size ≤ maxLen) (hr : d.append k s = (c, d')) :
    Calls Try.prog 13 #[.pointer (some ⟨S, 0, none⟩), .string k, .string s] w (fun e w' => e = .returned (.int .i64 c) ∧ DkAt Try.prog 63 w' S m d' (N + 1) ∧ Tur [S, m] w w') := by
  have := append_any S m N d k s w h hN hk hs
  rw [hr] at this
  exact this
theorem sync_eq (S m N : Nat) (d d' : Dk) (c : Int) (k : ByteArray) (w : World) (h : DkAt Try.prog 63 w S m d N) (hN : N ≤ 1000000) (hk : k.size ≤ maxLen) (hr : d.sync k = (c, d')) :
    Calls Try.prog 19 #[.pointer (some ⟨S, 0, none⟩), .string k] w (fun e w' => e = .returned (.int .i64 c) ∧ DkAt Try.prog 63 w' S m d' N ∧ Tur [S, m] w w') := by
  have := sync_any S m N d k w h hN hk
  rw [hr] at this
  exact this
theorem read_eq (S m N : Nat) (d : Dk) (c : Int) (k s : ByteArray) (w : World) (h : DkAt Try.prog 63 w S m d N) (hk : k.size ≤ maxLen) (hr : d.read k = (s, c)) :
    Calls Try.prog 16 #[.pointer (some ⟨S, 0, none⟩), .string k] w (fun e w' => e = .returned (.tuple #[.string s, .int .i64 c]) ∧ Below w.heap.size w w') := by
  have := read_any S m N d k w h hk
  rw [hr] at this
  exact this
theorem crash_eq (S m N : Nat) (d d' : Dk) (ao : Option Addr) (kn kcap : Nat) (keep : List Int) (w : World) (h : DkAt Try.prog 63 w S m d N) (hN : N ≤ 1000000) (hk : RdN w.heap.size w ao kn kcap keep) (hr : d.crash keep = d') :
    Calls Try.prog 15 #[.pointer (some ⟨S, 0, none⟩), .slice ao kn kcap] w (DkNew Try.prog 63 d' N w) := by
  rw [← hr]
  exact crash_any S m N d ao kn kcap keep w h hN hk
theorem small (s : ByteArray) (h : s.size ≤ 9000000000) : s.size ≤ maxLen := by unfold maxLen; omega
/-- a slice of one number, just made -/
theorem rdN_new (w : World) (x : Int) (t : TypeId) : RdN (w.alloc (.cells #[.int .i64 x] t)).heap.size (w.alloc (.cells #[.int .i64 x] t)) (some ⟨w.heap.size, 0, none⟩) 1 1 [x] := by
  refine ⟨rfl, Nat.le_refl _, by unfold maxLen; omega, by simp, fun _ => ⟨w.heap.size, 0, rfl, by simp, fun i y hy j u hu => ?_⟩⟩
  have hb := Blk.new w t #[.int .i64 x]
  match i with
  | 0 =>
    simp at hy
    subst hy
    match j with
    | 0 => simp at hu; subst hu; exact hb.cell 0
    | j + 1 => simp at hu
  | i + 1 => simp at hy

set_option maxHeartbeats 2000000 in
set_option maxRecDepth 100000 in
theorem head_any (w : World) : Calls Try.prog 10 #[] w (fun e w' => e = .returned (.bool true) ∧ Below w.heap.size w w') := by
  have hnew := new_any 100 10 w
  have HNEW := Lib.hid hnew
  clear hnew
  have e0 : Dk.made 100 = ⟨100, [], false, -1⟩ := rfl
  have e1 : Dk.append ⟨100, [], false, -1⟩ ⟨#[102]⟩ ⟨#[97, 98]⟩ = (0, ⟨100, [⟨⟨#[102]⟩, ⟨#[97, 98]⟩, 0⟩], false, -1⟩) := by
    rw [append_on (turn_on (by decide)) nameBad_f (by decide), file_none, put_none, empty_app]
  have e2 : Dk.sync ⟨100, [⟨⟨#[102]⟩, ⟨#[97, 98]⟩, 0⟩], false, -1⟩ ⟨#[102]⟩ = (0, ⟨100, [⟨⟨#[102]⟩, ⟨#[97, 98]⟩, 2⟩], false, -1⟩) := by
    rw [sync_one (by decide)]; rfl
  have e3 : Dk.append ⟨100, [⟨⟨#[102]⟩, ⟨#[97, 98]⟩, 2⟩], false, -1⟩ ⟨#[102]⟩ ⟨#[99, 100]⟩ = (0, ⟨100, [⟨⟨#[102]⟩, ⟨#[97, 98, 99, 100]⟩, 2⟩], false, -1⟩) := by
    rw [append_on (turn_on (by decide)) nameBad_f (by decide), file_one, put_one]; rfl
  have e4 : Dk.crash ⟨100, [⟨⟨#[102]⟩, ⟨#[97, 98, 99, 100]⟩, 2⟩], false, -1⟩ [1] = ⟨100, [⟨⟨#[102]⟩, ⟨#[97, 98, 99]⟩, 3⟩], false, -1⟩ := by
    rw [crash_one]; rfl
  have e5 : Dk.read ⟨100, [⟨⟨#[102]⟩, ⟨#[97, 98, 99]⟩, 3⟩], false, -1⟩ ⟨#[102]⟩ = (⟨#[97, 98, 99]⟩, 0) := read_one
  have E0 := Lib.hid e0
  have E1 := Lib.hid e1
  have E2 := Lib.hid e2
  have E3 := Lib.hid e3
  have E4 := Lib.hid e4
  have E5 := Lib.hid e5
  clear e0 e1 e2 e3 e4 e5
  go_enter Try.func10, Try.ntmps10
  go_wp2_with fail
  refine (HNEW.out).mono ?_
  rintro e w1 ⟨S, m, rfl, h1, hS, hm, hb1⟩
  rw [E0.out] at h1
  have H1 := Lib.hid h1
  have HB1 := Lib.hid hb1
  clear h1 hb1
  have u1 : ∀ (a b : World), Tur [S, m] a b → w.heap.size ≤ a.heap.size → Below w.heap.size a b := fun _ _ h hs => h.below (by simp; omega) hs
  have UB := Lib.hid u1
  clear u1
  go_wp2_with fail
  refine (append_eq S m 10 _ _ _ _ _ w1 H1.out (by decide) (small _ (by decide)) (small _ (by decide)) E1.out).mono ?_
  rintro e w2 ⟨rfl, h2, t2⟩
  have HB2 := Lib.hid (HB1.out.trans (UB.out _ _ t2 HB1.out.size))
  have H2 := Lib.hid h2
  clear h2 t2
  go_wp2_with fail
  refine (sync_eq S m 11 _ _ _ _ w2 H2.out (by decide) (small _ (by decide)) E2.out).mono ?_
  rintro e w3 ⟨rfl, h3, t3⟩
  have HB3 := Lib.hid (HB2.out.trans (UB.out _ _ t3 HB2.out.size))
  have H3 := Lib.hid h3
  clear h3 t3
  go_wp2_with fail
  refine (append_eq S m 11 _ _ _ _ _ w3 H3.out (by decide) (small _ (by decide)) (small _ (by decide)) E3.out).mono ?_
  rintro e w4 ⟨rfl, h4, t4⟩
  have HB4 := Lib.hid (HB3.out.trans (UB.out _ _ t4 HB3.out.size))
  have H4 := Lib.hid h4
  clear h4 t4
  go_wp2_with fail
  refine (crash_eq S m 12 _ _ _ 1 1 [1] _ (H4.out.below ((Below.refl _ _).alloc (Nat.le_refl _) _)) (by decide) (rdN_new w4 1 _) E4.out).mono ?_
  rintro e w5 ⟨S', m', rfl, h5, hS', hm', hb5⟩
  have HB5 := Lib.hid (HB4.out.trans ((((Below.refl _ w4).alloc (Nat.le_refl _) (.cells #[.int .i64 1] 3)).trans (hb5.mono (by simp))).mono HB4.out.size))
  have H5 := Lib.hid h5
  clear h5 hb5
  go_wp2_with fail
  refine (read_eq S' m' 12 _ _ _ _ w5 H5.out (small _ (by decide)) E5.out).mono ?_
  rintro e w6 ⟨rfl, h6⟩
  have HB6 := Lib.hid (HB5.out.trans (h6.mono HB5.out.size))
  clear h6
  go_wp2_with fail
  go_ret
  exact ⟨rfl, HB6.out⟩
end Go.Proofs.Ytfiigdgkgelbkaa
