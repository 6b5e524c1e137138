/-
  The law DiskRooms: the walk.
-/
import Derived.Test.YtfiigdgkgelbkaaHd4
import Derived.Test.YtfiigdgkgelbkaaBit
import Derived.Test.YtfiigdgkgelbkaaDm1
import Derived.Deep.OwnRows
import Derived.Laws.IdiomStrings
namespace Go.Mb
open Go.RowKit
/-- a disk that is up, where no fall is set, with so much room left -/
structure DkUp (d : Dk) (left : Int) : Prop where
  up : d.down = false
  no : d.fall = -1
  left : d.free = left
theorem DkUp.turn {d : Dk} {left : Int} (h : DkUp d left) : d.turn = (0, d) := by
  obtain ⟨r, fs, dn, fall⟩ := d
  obtain ⟨h1, h2, _⟩ := h
  simp only at h1 h2
  subst h1; subst h2
  exact turn_on (by decide)
theorem sumF_put {fs : List Fl} (hs : SrtF fs) (k t : ByteArray) (n : Int) : sumF (putF fs ⟨k, ((lookF fs k).getD ⟨k, ⟨#[]⟩, 0⟩).data ++ t, n⟩) = sumF fs + t.size := by
  unfold putF
  rw [sumF_insF]
  cases h : lookF fs k with
  | none =>
    rw [delF_none h]
    simp only [Option.getD_none, empty_app]
    omega
  | some f =>
    obtain ⟨hm, hn⟩ := lookF_some h
    have := sumF_del hs hm
    rw [hn] at this
    simp only [Option.getD_some, ByteArray.size_append]
    omega
theorem DkUp.append_fits {d : Dk} {N : Nat} {left : Int} (h : DkUp d left) (ho : DkOk d N) {k s : ByteArray} (hk : nameBad k = false) (hs : (s.size : Int) ≤ left) :
    ∃ d', d.append k s = (0, d') ∧ DkUp d' (left - s.size) := by
  refine ⟨_, append_on h.turn hk (by rw [h.left]; exact hs), h.up, h.no, ?_⟩
  have := sumF_put ho.srt k s (d.file k).safe
  have hl := h.left
  unfold Dk.free at hl ⊢
  simp only
  unfold Dk.file
  unfold Dk.file at this
  omega
theorem DkUp.append_full {d : Dk} {left : Int} (h : DkUp d left) {k s : ByteArray} (hk : nameBad k = false) (hs : left < s.size) : d.append k s = (7, d) := by
  unfold Dk.append
  rw [h.turn]
  simp only [ne_eq, not_true_eq_false, if_false, hk, Bool.false_eq_true, h.left]
  rw [if_pos hs]
theorem DkUp.gone {d : Dk} {N : Nat} {left : Int} (h : DkUp d left) (ho : DkOk d N) (k : ByteArray) :
    ∃ s c d', d.read k = (s, c) ∧ d.remove k = (c, d') ∧ DkUp d' (left + s.size) ∧ s.size ≤ 1048576 := by
  unfold Dk.read Dk.remove
  rw [h.turn, h.up]
  simp only [Bool.false_eq_true, if_false, ne_eq, not_true_eq_false]
  cases hl : lookF d.fs k with
  | none => exact ⟨⟨#[]⟩, 5, d, rfl, rfl, ⟨h.up, h.no, by rw [h.left]; show _ = left + 0; omega⟩, by show 0 ≤ _; omega⟩
  | some f =>
    obtain ⟨hm, hn⟩ := lookF_some hl
    have h1 := sumF_del ho.srt hm
    rw [hn] at h1
    have h2 := ho.fits
    have h3 := ho.room
    have h4 := h.left
    unfold Dk.free at h4
    refine ⟨f.data, 0, { d with fs := delF d.fs k }, rfl, rfl, ⟨h.up, h.no, ?_⟩, by omega⟩
    unfold Dk.free
    simp only
    omega
theorem DkUp.bd {d : Dk} {N : Nat} {left : Int} (h : DkUp d left) (ho : DkOk d N) : 0 ≤ left ∧ left ≤ 1048576 := by
  have h2 := ho.fits
  have h3 := ho.room
  have h4 := h.left
  unfold Dk.free at h4
  omega
/-- a name of one letter -/
def lett (q : Nat) : ByteArray := ⟨#[UInt8.ofNat (97 + q)]⟩
theorem lett_good (q : Nat) : nameBad (lett q) = false := by
  rw [nameBad_iff, Lib.toList_data]
  exact ⟨rfl, by show 1 ≤ 40; omega⟩
def zN (n : Nat) : ByteArray := ⟨(List.replicate n (0 : UInt8)).toArray⟩
theorem zN_size (n : Nat) : (zN n).size = n := by simp [zN, ByteArray.size]
theorem wrap_u8 (n : Int) : IntKind.u8.wrap n = n % 256 := by simp [IntKind.wrap, IntKind.signed, IntKind.bits]
end Go.Mb
namespace Go.Proofs.Ytfiigdgkgelbkaa
open Go.RowKit Go.Mb Go.Maps
theorem remove_eq (S m N : Nat) (d d' : Dk) (c : Int) (k : ByteArray) (w : World) (h : DkAt Try.prog 63 w S m d N) (hk : k.size ≤ maxLen) (hr : d.remove k = (c, d')) :
    Calls Try.prog 18 #[.pointer (some ⟨S, 0, none⟩), .string k] w (fun e w' => e = .returned (.int .i64 c) ∧ DkAt Try.prog 63 w' S m d' N ∧ Tur [S, m] w w') := by
  have := remove_any S m N d k w h hk
  rw [hr] at this
  exact this
theorem info5 : (Try.prog.info? 5).map (fun i => (i.zero, i.size, i.bytes)) = some (some (.int .u8 0), 1, 1) := by kernel_rfl
/-- string(make([]byte, n)) -/
theorem conv_zero (n : Nat) (w : World) : (convert 33 9 (.slice (some ⟨w.heap.size, 0, none⟩) n n)).run Try.prog (w.alloc (.cells (madeCells #[.int .u8 0] n) 5)) = .ok (.string (zN n)) (w.alloc (.cells (madeCells #[.int .u8 0] n) 5)) := by
  have hb := Blk.new w 5 (madeCells #[.int .u8 0] n)
  have := run_convert_bytes_back (P := Try.prog) (w.alloc (.cells (madeCells #[.int .u8 0] n) 5)) 33 9 5 ⟨w.heap.size, 0, none⟩ n (List.replicate n (0 : UInt8)) Try.underlying33 Try.underlying5 Try.underlying9 (fun j hj => by
    rw [Addr.add_lit]
    have h := hb.cell j
    rw [List.length_replicate] at hj
    rw [Nat.zero_add, h]
    simp [madeCells, hj, Nat.mod_one])
  rw [List.length_replicate] at this
  exact this
theorem conv_lett (q : Nat) (hq : q < 4) (w : World) : (convert 33 9 (.slice (some ⟨w.heap.size, 0, none⟩) 1 1)).run Try.prog (w.alloc (.cells #[.int .u8 (97 + (q : Int))] 5)) = .ok (.string (lett q)) (w.alloc (.cells #[.int .u8 (97 + (q : Int))] 5)) := by
  have hb := Blk.new w 5 #[.int .u8 (97 + (q : Int))]
  exact run_convert_bytes_back (P := Try.prog) _ 33 9 5 ⟨w.heap.size, 0, none⟩ 1 [UInt8.ofNat (97 + q)] Try.underlying33 Try.underlying5 Try.underlying9 (fun j hj => by
    obtain rfl : j = 0 := by simpa using hj
    rw [Addr.add_lit]
    have h := hb.cell 0
    rw [Nat.zero_add, h]
    have : (UInt8.ofNat (97 + q)).toNat = 97 + q := by rw [UInt8.toNat_ofNat']; omega
    simp [this]
    omega)

set_option maxHeartbeats 4000000 in
set_option maxRecDepth 100000 in
theorem rooms_law (n0 : Int) (ao : Option Addr) (ln cap : Nat) (l : List Int) (w : World) (hl : RdN w.heap.size w ao ln cap l) : Calls Try.prog 4 #[.int .i64 n0, .slice ao ln cap] w (fun e w' => e = .returned (.bool true) ∧ Below w.heap.size w w') := by
  have HHD := Lib.hid (head_any w)
  have hand1 : bits .and .i64 n0 1023 = n0 % 1024 := and_1023 n0
  obtain ⟨n, hn⟩ : ∃ n : Nat, (n : Int) = n0 % 1024 := ⟨(n0 % 1024).toNat, by omega⟩
  have hn31 : n ≤ 1023 := by omega
  rw [← hn] at hand1
  clear hn
  have hlen := hl.len
  have hmx := hl.max
  have hcp := hl.le
  unfold maxLen at hmx
  have HL := Lib.hid hl
  by_cases h40 : ln ≤ 40
  · clear hl
    go_enter Try.func4, Try.ntmps4
    go_wp2_with fail
    refine (HHD.out).mono ?_
    rintro e w0 ⟨rfl, hb0⟩
    have HB0 := Lib.hid hb0
    have HNEW := Lib.hid (new_any n 0 w0)
    clear hb0
    go_wp2_with fail
    refine (HNEW.out).mono ?_
    rintro e w1 ⟨S, m, rfl, h1, hS, hm, hb1⟩
    have e1 : Dk.made n = ⟨n, [], false, -1⟩ := by
      unfold Dk.made
      congr 1
      omega
    rw [e1] at h1
    have hs0 := HB0.out.size
    have u1 : ∀ (x y : World), Tur [S, m] x y → w.heap.size ≤ x.heap.size → Below w.heap.size x y := fun _ _ h hs => h.below (by simp; omega) hs
    have UB := Lib.hid u1
    have HB1 := Lib.hid (HB0.out.trans (hb1.mono hs0))
    have H1 := Lib.hid h1
    clear h1 hb1 u1 e1
    go_wp2_with fail
    go_loopw [6, 26] (fun lf i wr => ∃ (k : Nat) (left : Int) (d : Dk), i = .int .i64 k ∧ lf = .int .i64 left ∧ k ≤ ln ∧ Hid (DkUp d left) ∧ Hid (DkAt Try.prog 63 wr S m d k) ∧ Hid (Below w.heap.size w wr)) (fun _ i _ => ln - (intOf i).toNat)
    case atStart => exact ⟨0, n, _, rfl, rfl, Nat.zero_le _, ⟨rfl, rfl, by simp [Dk.free, sumF]⟩, H1.out, HB1.out⟩
    case round =>
      obtain ⟨k, left, d, rfl, rfl, hk, hu, hd, hb⟩ := hrel
      by_cases hlt : k < ln
      · obtain ⟨b, off, hao, hbs, _⟩ := Rd.cells HL.out (by omega)
        subst hao
        obtain ⟨x, hx⟩ : ∃ x, l[k]? = some x := ⟨l[k]'(by omega), List.getElem?_eq_getElem _⟩
        have hc0 : wr.cell? ⟨b, off + k, none⟩ = some (.int .i64 x) := RdN.at_ (Rd.below HL.out hb.out) hx rfl
        have hand2 : bits .and .i64 x 127 = x % 128 := and_127 x
        obtain ⟨sz, hsz⟩ : ∃ n : Nat, (n : Int) = x % 128 := ⟨(x % 128).toNat, by omega⟩
        have hsz1 : sz ≤ 127 := by omega
        rw [← hsz] at hand2
        clear hsz
        have hand3 : bits .and .i64 (k : Int) 3 = (k : Int) % 4 := and_3 k
        obtain ⟨q, hq⟩ : ∃ n : Nat, (n : Int) = (k : Int) % 4 := ⟨((k : Int) % 4).toNat, by omega⟩
        have hq3 : q < 4 := by omega
        rw [← hq] at hand3
        clear hq
        have hmk := run_make_row' (P := Try.prog) 33 5 (.int .u8 0) 1 Try.underlying33 info5 rfl .i64 .i64 sz (by omega) (by omega)
        have hcz := conv_zero sz (wr.alloc (.cells #[.int .u8 (97 + (q : Int))] 5))
        rw [World.size_alloc] at hcz
        obtain ⟨wa, hwa⟩ : ∃ wa, wa = (wr.alloc (.cells #[.int .u8 (97 + (q : Int))] 5)).alloc (.cells (madeCells #[.int .u8 0] sz) 5) := ⟨_, rfl⟩
        have HBA : Hid (Below wr.heap.size wr wa) := by rw [hwa]; exact ((Below.refl _ _).alloc (Nat.le_refl _) _).alloc (by simp) _
        rw [← hwa] at hcz
        have HWA := Lib.hid hwa
        clear hwa
        have hcl := conv_lett q hq3
        have hbd := hu.out.bd hd.out.ok
        by_cases hf : (sz : Int) ≤ left
        · by_cases h5 : k % 5 = 4
          · obtain ⟨d1, ha, hu1⟩ := hu.out.append_fits hd.out.ok (lett_good q) (s := zN sz) (by rw [zN_size]; exact hf)
            rw [zN_size] at hu1
            have HU1 := Lib.hid hu1
            have HLF := Lib.hid hu1.left
            have HA := Lib.hid (append_eq S m k _ _ _ _ _ wa (hd.out.below HBA.out) (by omega) (small _ (by show 1 ≤ _; omega)) (small _ (by rw [zN_size]; omega)) ha)
            clear ha hu1
            go_wp2_with (rw [← HWA.out])
            refine (HA.out).mono ?_
            rintro e w3 ⟨rfl, h3, t3⟩
            have HB3 := Lib.hid ((hb.out.trans (HBA.out.mono hb.out.size)).trans (UB.out _ _ t3 (Nat.le_trans hb.out.size HBA.out.size)))
            have hro := room_any S m _ _ w3 h3
            rw [HLF.out] at hro
            have HRO := Lib.hid hro
            have H3 := Lib.hid h3
            clear h3 t3 hro
            go_wp2_with fail
            refine (HRO.out).mono ?_
            rintro e w4 ⟨rfl, hb4⟩
            have H4 := Lib.hid (H3.out.below hb4)
            have HB4 := Lib.hid (HB3.out.trans (hb4.mono HB3.out.size))
            clear hb4
            obtain ⟨rs, rc, d2, hrd, hrm, hu2, hrs⟩ := HU1.out.gone H4.out.ok (lett q)
            have HRD := Lib.hid (read_eq S m _ _ _ _ _ w4 H4.out (small _ (by show 1 ≤ _; omega)) hrd)
            have HRM := Lib.hid hrm
            have HU2 := Lib.hid hu2
            have hrem : ((k : Int).tmod 5 == 4) = true := by rw [Int.tmod_eq_emod_of_nonneg (by omega)]; simp; omega
            clear hrd hrm hu2
            go_wp2_with fail
            refine (HRD.out).mono ?_
            rintro e w5 ⟨rfl, hb5⟩
            have H5 := Lib.hid (H4.out.below hb5)
            have HB5 := Lib.hid (HB4.out.trans (hb5.mono HB4.out.size))
            clear hb5
            go_wp2_with fail
            refine (remove_eq S m _ _ _ _ _ w5 H5.out (small _ (by show 1 ≤ _; omega)) HRM.out).mono ?_
            rintro e w6 ⟨rfl, h6, t6⟩
            have HB6 := Lib.hid (HB5.out.trans (UB.out _ _ t6 HB5.out.size))
            have H6 := Lib.hid h6
            clear h6 t6
            go_wp2_with fail
            go_roundw
            case rel => exact ⟨k + 1, _, d2, by go_num, rfl, by omega, HU2.out, H6.out, HB6.out⟩
            case measure => simp [intOf]; omega
          · obtain ⟨d1, ha, hu1⟩ := hu.out.append_fits hd.out.ok (lett_good q) (s := zN sz) (by rw [zN_size]; exact hf)
            rw [zN_size] at hu1
            have HU1 := Lib.hid hu1
            have HLF := Lib.hid hu1.left
            have HA := Lib.hid (append_eq S m k _ _ _ _ _ wa (hd.out.below HBA.out) (by omega) (small _ (by show 1 ≤ _; omega)) (small _ (by rw [zN_size]; omega)) ha)
            clear ha hu1
            go_wp2_with (rw [← HWA.out])
            refine (HA.out).mono ?_
            rintro e w3 ⟨rfl, h3, t3⟩
            have HB3 := Lib.hid ((hb.out.trans (HBA.out.mono hb.out.size)).trans (UB.out _ _ t3 (Nat.le_trans hb.out.size HBA.out.size)))
            have hro := room_any S m _ _ w3 h3
            rw [HLF.out] at hro
            have HRO := Lib.hid hro
            have H3 := Lib.hid h3
            clear h3 t3 hro
            go_wp2_with fail
            refine (HRO.out).mono ?_
            rintro e w4 ⟨rfl, hb4⟩
            have H4 := Lib.hid (H3.out.below hb4)
            have HB4 := Lib.hid (HB3.out.trans (hb4.mono HB3.out.size))
            clear hb4
            have hrem : ((k : Int).tmod 5 == 4) = false := by rw [Int.tmod_eq_emod_of_nonneg (by omega)]; simp; omega
            go_wp2_with fail
            go_roundw
            case rel => exact ⟨k + 1, _, _, by go_num, rfl, by omega, HU1.out, H4.out, HB4.out⟩
            case measure => simp [intOf]; omega
        · by_cases h5 : k % 5 = 4
          · have ha := hu.out.append_full (lett_good q) (s := zN sz) (by rw [zN_size]; omega)
            have hu1 := hu.out
            have HU1 := Lib.hid hu1
            have HLF := Lib.hid hu1.left
            have HA := Lib.hid (append_eq S m k _ _ _ _ _ wa (hd.out.below HBA.out) (by omega) (small _ (by show 1 ≤ _; omega)) (small _ (by rw [zN_size]; omega)) ha)
            clear ha hu1
            go_wp2_with (rw [← HWA.out])
            refine (HA.out).mono ?_
            rintro e w3 ⟨rfl, h3, t3⟩
            have HB3 := Lib.hid ((hb.out.trans (HBA.out.mono hb.out.size)).trans (UB.out _ _ t3 (Nat.le_trans hb.out.size HBA.out.size)))
            have hro := room_any S m _ _ w3 h3
            rw [HLF.out] at hro
            have HRO := Lib.hid hro
            have H3 := Lib.hid h3
            clear h3 t3 hro
            go_wp2_with fail
            refine (HRO.out).mono ?_
            rintro e w4 ⟨rfl, hb4⟩
            have H4 := Lib.hid (H3.out.below hb4)
            have HB4 := Lib.hid (HB3.out.trans (hb4.mono HB3.out.size))
            clear hb4
            obtain ⟨rs, rc, d2, hrd, hrm, hu2, hrs⟩ := HU1.out.gone H4.out.ok (lett q)
            have HRD := Lib.hid (read_eq S m _ _ _ _ _ w4 H4.out (small _ (by show 1 ≤ _; omega)) hrd)
            have HRM := Lib.hid hrm
            have HU2 := Lib.hid hu2
            have hrem : ((k : Int).tmod 5 == 4) = true := by rw [Int.tmod_eq_emod_of_nonneg (by omega)]; simp; omega
            clear hrd hrm hu2
            go_wp2_with fail
            refine (HRD.out).mono ?_
            rintro e w5 ⟨rfl, hb5⟩
            have H5 := Lib.hid (H4.out.below hb5)
            have HB5 := Lib.hid (HB4.out.trans (hb5.mono HB4.out.size))
            clear hb5
            go_wp2_with fail
            refine (remove_eq S m _ _ _ _ _ w5 H5.out (small _ (by show 1 ≤ _; omega)) HRM.out).mono ?_
            rintro e w6 ⟨rfl, h6, t6⟩
            have HB6 := Lib.hid (HB5.out.trans (UB.out _ _ t6 HB5.out.size))
            have H6 := Lib.hid h6
            clear h6 t6
            go_wp2_with fail
            go_roundw
            case rel => exact ⟨k + 1, _, d2, by go_num, rfl, by omega, HU2.out, H6.out, HB6.out⟩
            case measure => simp [intOf]; omega
          · have ha := hu.out.append_full (lett_good q) (s := zN sz) (by rw [zN_size]; omega)
            have hu1 := hu.out
            have HU1 := Lib.hid hu1
            have HLF := Lib.hid hu1.left
            have HA := Lib.hid (append_eq S m k _ _ _ _ _ wa (hd.out.below HBA.out) (by omega) (small _ (by show 1 ≤ _; omega)) (small _ (by rw [zN_size]; omega)) ha)
            clear ha hu1
            go_wp2_with (rw [← HWA.out])
            refine (HA.out).mono ?_
            rintro e w3 ⟨rfl, h3, t3⟩
            have HB3 := Lib.hid ((hb.out.trans (HBA.out.mono hb.out.size)).trans (UB.out _ _ t3 (Nat.le_trans hb.out.size HBA.out.size)))
            have hro := room_any S m _ _ w3 h3
            rw [HLF.out] at hro
            have HRO := Lib.hid hro
            have H3 := Lib.hid h3
            clear h3 t3 hro
            go_wp2_with fail
            refine (HRO.out).mono ?_
            rintro e w4 ⟨rfl, hb4⟩
            have H4 := Lib.hid (H3.out.below hb4)
            have HB4 := Lib.hid (HB3.out.trans (hb4.mono HB3.out.size))
            clear hb4
            have hrem : ((k : Int).tmod 5 == 4) = false := by rw [Int.tmod_eq_emod_of_nonneg (by omega)]; simp; omega
            go_wp2_with fail
            go_roundw
            case rel => exact ⟨k + 1, _, _, by go_num, rfl, by omega, HU1.out, H4.out, HB4.out⟩
            case measure => simp [intOf]; omega
      · obtain rfl : k = ln := by omega
        have hbd := hu.out.bd hd.out.ok
        have hro := room_any S m _ _ wr hd.out
        rw [hu.out.left] at hro
        have HRO := Lib.hid hro
        have HN1 := Lib.hid (fun w => new_any (-5) 0 w)
        have HN2 := Lib.hid (fun w => new_any 1073741824 0 w)
        clear hro
        go_wp2_with fail
        refine (HRO.out).mono ?_
        rintro e w2 ⟨rfl, hb2⟩
        have HB2 := Lib.hid (hb.out.trans (hb2.mono hb.out.size))
        clear hb2
        go_wp2_with fail
        refine (HN1.out w2).mono ?_
        rintro e w3 ⟨S3, m3, rfl, h3, -, -, hb3⟩
        have hro3 := room_any S3 m3 _ _ w3 h3
        rw [show (Dk.made (-5)).free = 0 from rfl] at hro3
        have HR3 := Lib.hid hro3
        have HB3 := Lib.hid (HB2.out.trans (hb3.mono HB2.out.size))
        clear h3 hb3 hro3
        go_wp2_with fail
        refine (HR3.out).mono ?_
        rintro e w4 ⟨rfl, hb4⟩
        have HB4 := Lib.hid (HB3.out.trans (hb4.mono HB3.out.size))
        clear hb4
        go_wp2_with fail
        refine (HN2.out w4).mono ?_
        rintro e w5 ⟨S5, m5, rfl, h5, -, -, hb5⟩
        have hro5 := room_any S5 m5 _ _ w5 h5
        rw [show (Dk.made 1073741824).free = 1048576 from rfl] at hro5
        have HR5 := Lib.hid hro5
        have HB5 := Lib.hid (HB4.out.trans (hb5.mono HB4.out.size))
        clear h5 hb5 hro5
        go_wp2_with fail
        refine (HR5.out).mono ?_
        rintro e w6 ⟨rfl, hb6⟩
        have HB6 := Lib.hid (HB5.out.trans (hb6.mono HB5.out.size))
        clear hb6
        go_wp2_with fail
        all_goals go_ret
        all_goals exact ⟨rfl, HB6.out⟩
  · have h40' : 40 < ln := by omega
    clear hl
    go_enter Try.func4, Try.ntmps4
    go_wp2_with fail
    refine (HHD.out).mono ?_
    rintro e w0 ⟨rfl, hb0⟩
    have HB0 := Lib.hid hb0
    clear hb0
    go_wp2_with fail
    all_goals go_ret
    all_goals exact ⟨rfl, HB0.out⟩
end Go.Proofs.Ytfiigdgkgelbkaa
