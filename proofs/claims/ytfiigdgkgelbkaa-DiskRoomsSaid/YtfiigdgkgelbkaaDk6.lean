/-
  The disk's functions that turn its files: Truncate, Append.
-/
import Derived.Test.YtfiigdgkgelbkaaDk5
namespace Go.Proofs.Ytfiigdgkgelbkaa
open Go.RowKit Go.Mb

set_option maxHeartbeats 2000000 in
set_option maxRecDepth 100000 in
theorem truncate_any (S m N : Nat) (d : Dk) (k : ByteArray) (z : Int) (w : World) (h : DkAt Try.prog 63 w S m d N) (hN : N ≤ 1000000) (hk : k.size ≤ maxLen) :
    Calls Try.prog 20 #[.pointer (some ⟨S, 0, none⟩), .string k, .int .i64 z] w (DkSt Try.prog 63 S m (d.truncate k z) N w) := by
  rcases d.turn_cases with ⟨d', hd, _, _⟩ | ⟨d', hd, _, _, _⟩
  · have hr : d.truncate k z = (8, d') := by simp [Dk.truncate, hd]
    have HT := Lib.hid (turn_eq S m N d w h hd)
    have HR := Lib.hid hr
    clear hd hr h
    go_enter Try.func20, Try.ntmps20
    go_wp2_with fail
    refine (HT.out).mono ?_
    rintro e w1 ⟨rfl, h1, t1⟩
    have H1 := Lib.hid h1
    have U1 := Lib.hid t1
    clear h1 t1
    go_wp2_with fail
    go_ret
    exact DkSt.mk HR.out rfl H1.out U1.out
  · have HT := Lib.hid (turn_eq S m N d w h hd)
    have hrem : d.truncate k z = match lookF d'.fs k with
      | none => (5, d')
      | some f => if z < 0 ∨ (f.data.size : Int) < z then (1, d') else (0, { d' with fs := putF d'.fs ⟨k, f.data.extract 0 z.toNat, min f.safe z⟩ }) := by unfold Dk.truncate; rw [hd]; rfl
    have HREM := Lib.hid hrem
    clear hd h hrem
    cases hl : lookF d'.fs k with
    | none =>
      have hr : d.truncate k z = (5, d') := by rw [HREM.out, hl]
      have HR := Lib.hid hr
      have HV2 := Lib.hid (FileV.none_ hl)
      clear hr hl
      go_enter Try.func20, Try.ntmps20
      go_wp2_with fail
      refine (HT.out).mono ?_
      rintro e w1 ⟨rfl, h1, t1⟩
      obtain ⟨c0, c1, c2, c3, fz⟩ := h1.cells
      have H1 := Lib.hid h1
      have U1 := Lib.hid t1
      have HO := Lib.hid h1.own
      clear h1 t1 fz
      go_wp2_with (at_lookup; refine wpList_look_file_ok _ rfl _ _ 61 rfl 66 Try.keyS Try.underlying61 Try.underlying9 (Try.fileZ _) m d'.fs.length d'.fs rfl HO.out k rfl hk _ _ _ HV2.out ?_)
      go_ret
      have hbl := (Below.refl w1.heap.size w1).alloc (Nat.le_refl _) (.cells #[.string ⟨#[]⟩, .int .i64 0] 66)
      exact DkSt.mk HR.out rfl (H1.out.below hbl) (U1.out.trans (Tur.of_below hbl _))
    | some f =>
      have HL := Lib.hid hl
      have HV2 := Lib.hid (FileV.some_ hl)
      by_cases hz : 0 ≤ z
      · by_cases hz2 : z ≤ f.data.size
        · rcases (show ((if z < f.safe then z else f.safe) = z ∧ min f.safe z = z) ∨ ((if z < f.safe then z else f.safe) = f.safe ∧ min f.safe z = f.safe) by split <;> omega) with ⟨hzs, hmn⟩ | ⟨hzs, hmn⟩
          all_goals
            have hr : d.truncate k z = (0, { d' with fs := putF d'.fs ⟨k, f.data.extract 0 z.toNat, min f.safe z⟩ }) := by
              rw [HREM.out, hl]; simp only; rw [if_neg (by omega)]
            have HMN := Lib.hid hmn
            rw [hmn] at hr
            have HR := Lib.hid hr
            have hzd : decide (z < 0) = false := by simpa using hz
            have hzd2 : decide ((f.data.size : Int) < z) = false := by simpa using hz2
            clear hr hl hmn
            go_enter Try.func20, Try.ntmps20
            go_wp2_with fail
            refine (HT.out).mono ?_
            rintro e w1 ⟨rfl, h1, t1⟩
            obtain ⟨c0, c1, c2, c3, fz⟩ := h1.cells
            have hs := h1.ok.safe f (lookF_some HL.out).1
            have hsz : (f.data.size : Int) ≤ 1048576 := by
              have h3 := sumF_del h1.ok.srt (lookF_some HL.out).1
              have h4 := h1.ok.fits
              have h5 := h1.ok.room.2
              omega
            have hfree : 0 ≤ d'.free := by have := h1.ok.fits; unfold Dk.free; omega
            have hok := h1.ok.swap (f' := ⟨k, f.data.extract 0 z.toNat, min f.safe z⟩) HL.out (by simp; omega) (by simp; omega)
            rw [HMN.out] at hok
            have hfew := h1.few
            have H1 := Lib.hid h1
            have U1 := Lib.hid t1
            have HO := Lib.hid h1.own
            have HOK := Lib.hid hok
            clear h1 t1 fz hok hfree
            go_wp2_with (at_lookup; refine wpList_look_file_ok _ rfl _ _ 61 rfl 66 Try.keyS Try.underlying61 Try.underlying9 (Try.fileZ _) m d'.fs.length d'.fs rfl HO.out k rfl hk _ _ _ HV2.out ?_)
            refine Go.Mb.wp_region_tail 14 (by kernel_rfl) (by kernel_rfl) ?_
            intro W hW
            have hbW : Below w1.heap.size w1 W := by rw [hW]; exact ((Below.refl _ _).alloc (Nat.le_refl _) _).trans ⟨rfl, rfl, rfl, Nat.le_refl _, fun _ _ => rfl⟩
            have hbox : Blk W w1.heap.size 66 #[.string f.data, .int .i64 f.safe] := by rw [hW]; exact Blk.new w1 _ _
            have HW := H1.out.below hbW
            have k1 := HW.cells.2.1
            have b0 : W.cell? ⟨w1.heap.size, 0, none⟩ = some (.string f.data) := hbox.cell 0
            have b1 : W.cell? ⟨w1.heap.size, 1, none⟩ = some (.int .i64 f.safe) := hbox.cell 1
            have HOW := Lib.hid HW.own
            have HA := Lib.hid HW
            have HBW := Lib.hid hbW
            clear hW hbW hbox HW c0 c1 c2 c3
            simp only [List.take_succ_cons, List.take_zero, List.drop_succ_cons, List.drop_zero]
            repeat still_step
            refine wpStill_nil ?_
            go_wp2_with (at_mapUpdate; refine wpList_put_file _ rfl _ _ _ 61 rfl 66 Try.keyS Try.underlying61 Try.underlying9 m d'.fs rfl HOW.out (by unfold maxLen; omega) ⟨k, f.data.extract 0 z.toNat, _⟩ rfl rfl hk ?_; intro w3 hown3 hturn3)
            go_ret
            exact DkSt.mk HR.out rfl (HA.out.setFs hturn3 hown3 HOK.out) ((U1.out.trans (Tur.of_below HBW.out _)).trans (Tur.of_map hturn3 (by simp)))
        · have hr : d.truncate k z = (1, d') := by
            rw [HREM.out, hl]; simp only; rw [if_pos (by omega)]
          have HR := Lib.hid hr
          have hzd : decide (z < 0) = false := by simpa using hz
          have hz3 : (f.data.size : Int) < z := by omega
          clear hr hl hz2
          go_enter Try.func20, Try.ntmps20
          go_wp2_with fail
          refine (HT.out).mono ?_
          rintro e w1 ⟨rfl, h1, t1⟩
          obtain ⟨c0, c1, c2, c3, fz⟩ := h1.cells
          have H1 := Lib.hid h1
          have U1 := Lib.hid t1
          have HO := Lib.hid h1.own
          clear h1 t1 fz
          go_wp2_with (at_lookup; refine wpList_look_file_ok _ rfl _ _ 61 rfl 66 Try.keyS Try.underlying61 Try.underlying9 (Try.fileZ _) m d'.fs.length d'.fs rfl HO.out k rfl hk _ _ _ HV2.out ?_)
          go_ret
          have hbl := (Below.refl w1.heap.size w1).alloc (Nat.le_refl _) (.cells #[.string f.data, .int .i64 f.safe] 66)
          exact DkSt.mk HR.out rfl (H1.out.below hbl) (U1.out.trans (Tur.of_below hbl _))
      · have hr : d.truncate k z = (1, d') := by
          rw [HREM.out, hl]; simp only; rw [if_pos (by omega)]
        have HR := Lib.hid hr
        have hz3 : z < 0 := by omega
        clear hr hl hz
        go_enter Try.func20, Try.ntmps20
        go_wp2_with fail
        refine (HT.out).mono ?_
        rintro e w1 ⟨rfl, h1, t1⟩
        obtain ⟨c0, c1, c2, c3, fz⟩ := h1.cells
        have H1 := Lib.hid h1
        have U1 := Lib.hid t1
        have HO := Lib.hid h1.own
        clear h1 t1 fz
        go_wp2_with (at_lookup; refine wpList_look_file_ok _ rfl _ _ 61 rfl 66 Try.keyS Try.underlying61 Try.underlying9 (Try.fileZ _) m d'.fs.length d'.fs rfl HO.out k rfl hk _ _ _ HV2.out ?_)
        go_ret
        have hbl := (Below.refl w1.heap.size w1).alloc (Nat.le_refl _) (.cells #[.string f.data, .int .i64 f.safe] 66)
        exact DkSt.mk HR.out rfl (H1.out.below hbl) (U1.out.trans (Tur.of_below hbl _))

set_option maxHeartbeats 2000000 in
set_option maxRecDepth 100000 in
theorem append_any (S m N : Nat) (d : Dk) (k s : ByteArray) (w : World) (h : DkAt Try.prog 63 w S m d N) (hN : N ≤ 1000000) (hk : k.size ≤ maxLen) (hs : s.size ≤ maxLen) :
    Calls Try.prog 13 #[.pointer (some ⟨S, 0, none⟩), .string k, .string s] w (DkSt Try.prog 63 S m (d.append k s) (N + 1) w) := by
  unfold maxLen at hs
  rcases d.turn_cases with ⟨d', hd, _, _⟩ | ⟨d', hd, _, _, _⟩
  · have hr : d.append k s = (8, d') := by simp [Dk.append, hd]
    have HT := Lib.hid (turn_eq S m N d w h hd)
    have HR := Lib.hid hr
    clear hd hr h
    go_enter Try.func13, Try.ntmps13
    go_wp2_with fail
    refine (HT.out).mono ?_
    rintro e w1 ⟨rfl, h1, t1⟩
    have H1 := Lib.hid h1
    have U1 := Lib.hid t1
    clear h1 t1
    go_wp2_with fail
    go_ret
    exact DkSt.mk HR.out rfl (H1.out.mono (by omega)) U1.out
  · have HT := Lib.hid (turn_eq S m N d w h hd)
    have hrem : d.append k s = if nameBad k then ((1 : Int), d') else if d'.free < s.size then (7, d') else (0, { d' with fs := putF d'.fs ⟨k, (d'.file k).data ++ s, (d'.file k).safe⟩ }) := by unfold Dk.append; rw [hd]; rfl
    have HREM := Lib.hid hrem
    clear hd h hrem
    cases hb : nameBad k with
    | true =>
      have hr : d.append k s = (1, d') := by rw [HREM.out, hb]; rfl
      have HR := Lib.hid hr
      cases he : k.toList.isEmpty with
      | true =>
        clear hr hb
        go_enter Try.func13, Try.ntmps13
        go_wp2_with fail
        refine (HT.out).mono ?_
        rintro e w1 ⟨rfl, h1, t1⟩
        have H1 := Lib.hid h1
        have U1 := Lib.hid t1
        clear h1 t1
        go_wp2_with fail
        go_ret
        exact DkSt.mk HR.out rfl (H1.out.mono (by omega)) U1.out
      | false =>
        have hlong : (40 : Int) < k.size := by unfold nameBad at hb; rw [he] at hb; simpa using hb
        clear hr hb
        go_enter Try.func13, Try.ntmps13
        go_wp2_with fail
        refine (HT.out).mono ?_
        rintro e w1 ⟨rfl, h1, t1⟩
        have H1 := Lib.hid h1
        have U1 := Lib.hid t1
        clear h1 t1
        go_wp2_with fail
        go_ret
        exact DkSt.mk HR.out rfl (H1.out.mono (by omega)) U1.out
    | false =>
      obtain ⟨he, hshort⟩ := (nameBad_iff k).1 hb
      have hshort' : ¬ (40 : Int) < k.size := by omega
      by_cases hfr : d'.free < s.size
      · have hr : d.append k s = (7, d') := by rw [HREM.out, hb, if_neg (by simp), if_pos hfr]
        have HR := Lib.hid hr
        clear hr hb
        go_enter Try.func13, Try.ntmps13
        go_wp2_with fail
        refine (HT.out).mono ?_
        rintro e w1 ⟨rfl, h1, t1⟩
        have hroom := room_any S m N d' w1 h1
        have H1 := Lib.hid h1
        have U1 := Lib.hid t1
        have HRM := Lib.hid hroom
        clear h1 t1 hroom
        go_wp2_with fail
        refine (HRM.out).mono ?_
        rintro e w2 ⟨rfl, hb2⟩
        have HB2 := Lib.hid hb2
        clear hb2
        go_wp2_with fail
        go_ret
        exact DkSt.mk HR.out rfl ((H1.out.below HB2.out).mono (by omega)) (U1.out.trans (Tur.of_below HB2.out _))
      · have hr : d.append k s = (0, { d' with fs := putF d'.fs ⟨k, (d'.file k).data ++ s, (d'.file k).safe⟩ }) := by rw [HREM.out, hb, if_neg (by simp), if_neg hfr]
        have HR := Lib.hid hr
        have hfr' : (s.size : Int) ≤ d'.free := by omega
        clear hr hb hfr
        have hv : FileV d'.fs k (d'.file k).data (d'.file k).safe (lookF d'.fs k).isSome := by
          unfold FileV Dk.file
          cases lookF d'.fs k <;> exact ⟨rfl, rfl, rfl⟩
        have HV := Lib.hid hv
        clear hv
        obtain ⟨fd, hfd⟩ : ∃ fd, fd = (d'.file k).data := ⟨_, rfl⟩
        obtain ⟨fsf, hfs⟩ : ∃ fsf, fsf = (d'.file k).safe := ⟨_, rfl⟩
        rw [← hfd, ← hfs] at HV HR
        have HFD := Lib.hid hfd
        have HFS := Lib.hid hfs
        clear hfd hfs
        go_enter Try.func13, Try.ntmps13
        go_wp2_with fail
        refine (HT.out).mono ?_
        rintro e w1 ⟨rfl, h1, t1⟩
        have hroom := room_any S m N d' w1 h1
        have H1 := Lib.hid h1
        have U1 := Lib.hid t1
        have HRM := Lib.hid hroom
        clear h1 t1 hroom
        go_wp2_with fail
        refine (HRM.out).mono ?_
        rintro e w2 ⟨rfl, hb2⟩
        have h2 := H1.out.below hb2
        have hfree : d'.free ≤ 1048576 := by have := h2.ok.room.2; unfold Dk.free; omega
        have hfd : (fd.size : Int) ≤ 1048576 ∧ DkOk { d' with fs := putF d'.fs ⟨k, fd ++ s, fsf⟩ } (N + 1) := by
          have e1 := HFD.out
          have e2 := HFS.out
          unfold Dk.file at e1 e2
          cases hl : lookF d'.fs k with
          | none =>
            rw [hl] at e1 e2
            simp only [Option.getD_none] at e1 e2
            subst e1 e2
            refine ⟨by decide, h2.ok.more hl ?_ ?_ (by omega)⟩
            · simp only [ByteArray.size_append]; simp only [ByteArray.size]; simp; exact hfr'
            · simp only [ByteArray.size_append]; omega
          | some f =>
            rw [hl] at e1 e2
            simp only [Option.getD_some] at e1 e2
            subst e1 e2
            have h3 := sumF_del h2.ok.srt (lookF_some hl).1
            have h4 := h2.ok.fits
            have h5 := h2.ok.room.2
            have h6 := h2.ok.safe f (lookF_some hl).1
            refine ⟨by omega, (h2.ok.swap (f' := ⟨k, f.data ++ s, f.safe⟩) hl ?_ ?_).mono (by omega)⟩
            · simp only [ByteArray.size_append]; omega
            · simp only [ByteArray.size_append]; omega
        obtain ⟨hfd1, hok⟩ := hfd
        obtain ⟨c0, c1, c2, c3, fz⟩ := h2.cells
        have hfew := h2.few
        have u2 : Tur [S, m] w w2 := U1.out.trans (Tur.of_below hb2 _)
        have H2 := Lib.hid h2
        have U2 := Lib.hid u2
        have HO := Lib.hid h2.own
        have HOK := Lib.hid hok
        clear h2 u2 fz hok hb2
        go_wp2_with (at_lookup; refine wpList_look_file _ rfl _ _ 61 rfl 66 Try.keyS Try.underlying61 Try.underlying9 (Try.fileZ _) m d'.fs.length d'.fs rfl HO.out k rfl hk _ _ _ HV.out ?_)
        refine Go.Mb.wp_region_tail 6 (by kernel_rfl) (by kernel_rfl) ?_
        intro W hW
        have hbW : Below w2.heap.size w2 W := by rw [hW]; exact ((Below.refl _ _).alloc (Nat.le_refl _) _).trans ⟨rfl, rfl, rfl, Nat.le_refl _, fun _ _ => rfl⟩
        have hbox : Blk W w2.heap.size 66 #[.string (fd ++ s), .int .i64 fsf] := by rw [hW]; exact Blk.new w2 _ _
        have HW := H2.out.below hbW
        have k1 := HW.cells.2.1
        have b0 : W.cell? ⟨w2.heap.size, 0, none⟩ = some (.string (fd ++ s)) := hbox.cell 0
        have b1 : W.cell? ⟨w2.heap.size, 1, none⟩ = some (.int .i64 fsf) := hbox.cell 1
        have HOW := Lib.hid HW.own
        have HA := Lib.hid HW
        have HBW := Lib.hid hbW
        clear hW hbW hbox HW c0 c1 c2 c3
        simp only [List.take_succ_cons, List.take_zero, List.drop_succ_cons, List.drop_zero]
        repeat still_step
        refine wpStill_nil ?_
        go_wp2_with (at_mapUpdate; refine wpList_put_file _ rfl _ _ _ 61 rfl 66 Try.keyS Try.underlying61 Try.underlying9 m d'.fs rfl HOW.out (by unfold maxLen; omega) ⟨k, fd ++ s, fsf⟩ rfl rfl hk ?_; intro w3 hown3 hturn3)
        go_ret
        exact DkSt.mk HR.out rfl (HA.out.setFs hturn3 hown3 HOK.out) ((U2.out.trans (Tur.of_below HBW.out _)).trans (Tur.of_map hturn3 (by simp)))
end Go.Proofs.Ytfiigdgkgelbkaa
