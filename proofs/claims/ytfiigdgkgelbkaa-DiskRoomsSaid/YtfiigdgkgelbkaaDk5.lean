/-
  The disk's functions that turn its files: Rename, Truncate, Append.
-/
import Derived.Test.YtfiigdgkgelbkaaDk4
namespace Go.Mb
open Go.RowKit Go.WideMaps
theorem DkOk.gone {d : Dk} {N : Nat} (h : DkOk d N) {f : Fl} {k : ByteArray} (hl : lookF d.fs k = some f) : DkOk { d with fs := delF d.fs k } (N - 1) ∧ 1 ≤ N ∧ (sumF d.fs : Int) = f.data.size + sumF (delF d.fs k) := by
  obtain ⟨hm, hn⟩ := lookF_some hl
  have h1 := delF_length_lt hm
  have h2 := sumF_del h.srt hm
  have h3 := h.less k
  have h4 := h.few
  rw [hn] at h1 h2
  exact ⟨⟨h3.room, h3.srt, h3.safe, h3.fits, by show (delF d.fs k).length ≤ N - 1; omega, h3.fall, h3.names⟩, by omega, by omega⟩
theorem DkOk.moved {d : Dk} {N : Nat} (h : DkOk d N) {f : Fl} {k k' : ByteArray} (hl : lookF d.fs k = some f) (hk : k'.size ≤ 40) : DkOk { d with fs := putF (delF d.fs k) ⟨k', f.data, f.safe⟩ } N := by
  obtain ⟨h1, h2, h3⟩ := h.gone hl
  have hs := h.safe f (lookF_some hl).1
  have hf := h.fits
  cases hl2 : lookF (delF d.fs k) k' with
  | none =>
    have := h1.more (f' := ⟨k', f.data, f.safe⟩) hl2 (by show (f.data.size : Int) ≤ d.room - sumF (delF d.fs k); omega) hs hk
    exact this.mono (by omega)
  | some g =>
    have := h1.swap (f' := ⟨k', f.data, f.safe⟩) hl2 (by show (f.data.size : Int) ≤ g.data.size + (d.room - sumF (delF d.fs k)); omega) hs
    exact this.mono (by omega)
theorem nameBad_iff (k : ByteArray) : nameBad k = false ↔ k.toList.isEmpty = false ∧ k.size ≤ 40 := by
  unfold nameBad
  rw [Bool.or_eq_false_iff, decide_eq_false_iff_not]
  constructor <;> rintro ⟨h1, h2⟩ <;> exact ⟨h1, by omega⟩
theorem FileV.none_ {fs : List Fl} {k : ByteArray} (h : lookF fs k = none) : FileV fs k ⟨#[]⟩ 0 false := by unfold FileV; rw [h]; exact ⟨rfl, rfl, rfl⟩
theorem FileV.some_ {fs : List Fl} {k : ByteArray} {f : Fl} (h : lookF fs k = some f) : FileV fs k f.data f.safe true := by unfold FileV; rw [h]; exact ⟨rfl, rfl, rfl⟩
end Go.Mb
namespace Go.Proofs.Ytfiigdgkgelbkaa
open Go.RowKit Go.Mb

set_option maxHeartbeats 2000000 in
set_option maxRecDepth 100000 in
theorem rename_any (S m N : Nat) (d : Dk) (k k' : ByteArray) (w : World) (h : DkAt Try.prog 63 w S m d N) (hN : N ≤ 1000000) (hk : k.size ≤ maxLen) (hk' : k'.size ≤ maxLen) :
    Calls Try.prog 21 #[.pointer (some ⟨S, 0, none⟩), .string k, .string k'] w (DkSt Try.prog 63 S m (d.rename k k') N w) := by
  rcases d.turn_cases with ⟨d', hd, _, _⟩ | ⟨d', hd, _, _, _⟩
  · have hr : d.rename k k' = (8, d') := by simp [Dk.rename, hd]
    have HT := Lib.hid (turn_eq S m N d w h hd)
    have HR := Lib.hid hr
    clear hd hr h
    go_enter Try.func21, Try.ntmps21
    go_wp2_with fail
    refine (HT.out).mono ?_
    rintro e w1 ⟨rfl, h1, t1⟩
    have H1 := Lib.hid h1
    have U1 := Lib.hid t1
    clear h1 t1
    go_wp2_with fail
    go_ret
    exact DkSt.mk HR.out rfl H1.out U1.out
  · have HT := Lib.hid (turn_eq S m N d w h hd)
    have hrem : d.rename k k' = if nameBad k' then ((1 : Int), d') else match lookF d'.fs k with | none => (5, d') | some f => (0, { d' with fs := putF (delF d'.fs k) ⟨k', f.data, f.safe⟩ }) := by unfold Dk.rename; rw [hd]; rfl
    have HREM := Lib.hid hrem
    clear hd h hrem
    obtain ⟨s, n, there, hv⟩ := fileV_ex d'.fs k
    have hth := hv.has
    have HV := Lib.hid hv
    have HTH := Lib.hid hth
    clear hv hth
    cases hb : nameBad k' with
    | true =>
      have hr : d.rename k k' = (1, d') := by rw [HREM.out, hb]; rfl
      have HR := Lib.hid hr
      cases he : k'.toList.isEmpty with
      | true =>
        clear hr hb
        go_enter Try.func21, Try.ntmps21
        go_wp2_with fail
        refine (HT.out).mono ?_
        rintro e w1 ⟨rfl, h1, t1⟩
        obtain ⟨c0, c1, c2, c3, fz⟩ := h1.cells
        have H1 := Lib.hid h1
        have U1 := Lib.hid t1
        have HO := Lib.hid h1.own
        clear h1 t1 fz
        go_wp2_with (at_lookup; refine wpList_look_file_ok _ rfl _ _ 61 rfl 66 Try.keyS Try.underlying61 Try.underlying9 (Try.fileZ _) m d'.fs.length d'.fs rfl HO.out k rfl hk _ _ _ HV.out ?_)
        go_ret
        have hbl := (Below.refl w1.heap.size w1).alloc (Nat.le_refl _) (.cells #[.string s, .int .i64 n] 66)
        exact DkSt.mk HR.out rfl (H1.out.below hbl) (U1.out.trans (Tur.of_below hbl _))
      | false =>
        have hlong : (40 : Int) < k'.size := by unfold nameBad at hb; rw [he] at hb; simpa using hb
        clear hr hb
        go_enter Try.func21, Try.ntmps21
        go_wp2_with fail
        refine (HT.out).mono ?_
        rintro e w1 ⟨rfl, h1, t1⟩
        obtain ⟨c0, c1, c2, c3, fz⟩ := h1.cells
        have H1 := Lib.hid h1
        have U1 := Lib.hid t1
        have HO := Lib.hid h1.own
        clear h1 t1 fz
        go_wp2_with (at_lookup; refine wpList_look_file_ok _ rfl _ _ 61 rfl 66 Try.keyS Try.underlying61 Try.underlying9 (Try.fileZ _) m d'.fs.length d'.fs rfl HO.out k rfl hk _ _ _ HV.out ?_)
        go_ret
        have hbl := (Below.refl w1.heap.size w1).alloc (Nat.le_refl _) (.cells #[.string s, .int .i64 n] 66)
        exact DkSt.mk HR.out rfl (H1.out.below hbl) (U1.out.trans (Tur.of_below hbl _))
    | false =>
      obtain ⟨he, hshort⟩ := (nameBad_iff k').1 hb
      have hshort' : ¬ (40 : Int) < k'.size := by omega
      cases hl : lookF d'.fs k with
      | none =>
        have hr : d.rename k k' = (5, d') := by rw [HREM.out, hb, hl]; rfl
        have HR := Lib.hid hr
        have HV2 := Lib.hid (FileV.none_ hl)
        clear hr hb hl HV HTH
        go_enter Try.func21, Try.ntmps21
        go_wp2_with fail
        refine (HT.out).mono ?_
        rintro e w1 ⟨rfl, h1, t1⟩
        obtain ⟨c0, c1, c2, c3, fz⟩ := h1.cells
        have H1 := Lib.hid h1
        have U1 := Lib.hid t1
        have HO := Lib.hid h1.own
        clear h1 t1 fz
        go_wp2_with (at_lookup; refine wpList_look_file_ok _ rfl _ _ 61 rfl 66 Try.keyS Try.underlying61 Try.underlying9 (Try.fileZ _) m d'.fs.length d'.fs rfl HO.out k rfl hk _ _ _ HV2.out ?_)
        go_ret
        have hbl := (Below.refl w1.heap.size w1).alloc (Nat.le_refl _) (.cells #[.string ⟨#[]⟩, .int .i64 0] 66)
        exact DkSt.mk HR.out rfl (H1.out.below hbl) (U1.out.trans (Tur.of_below hbl _))
      | some f =>
        have hr : d.rename k k' = (0, { d' with fs := putF (delF d'.fs k) ⟨k', f.data, f.safe⟩ }) := by rw [HREM.out, hb, hl]; rfl
        have HR := Lib.hid hr
        have HL := Lib.hid hl
        have HV2 := Lib.hid (FileV.some_ hl)
        clear hr hb hl HV HTH
        go_enter Try.func21, Try.ntmps21
        go_wp2_with fail
        refine (HT.out).mono ?_
        rintro e w1 ⟨rfl, h1, t1⟩
        obtain ⟨c0, c1, c2, c3, fz⟩ := h1.cells
        have hok := h1.ok.moved HL.out hshort
        have c1a : ∀ o, (w1.alloc o).cell? ⟨S, 1, none⟩ = some (.map (some m)) := fun o => (h1.below ((Below.refl _ _).alloc (Nat.le_refl _) o)).cells.2.1
        have hfew := h1.few
        have hdl : (delF d'.fs k).length ≤ d'.fs.length := List.length_filter_le _ _
        have H1 := Lib.hid h1
        have U1 := Lib.hid t1
        have HO := Lib.hid h1.own
        have HOK := Lib.hid hok
        clear h1 t1 fz hok
        go_wp2_with (first
          | (at_lookup; refine wpList_look_file_ok _ rfl _ _ 61 rfl 66 Try.keyS Try.underlying61 Try.underlying9 (Try.fileZ _) m d'.fs.length d'.fs rfl HO.out k rfl hk _ _ _ HV2.out ?_)
          | (at_delete; refine wpList_del_file _ rfl _ _ 61 rfl 66 Try.keyS Try.underlying61 Try.underlying9 m d'.fs.length d'.fs rfl (HO.out.alloc _) k rfl hk ?_; intro w3 hown3 hturn3))
        have hbl := (Below.refl w1.heap.size w1).alloc (Nat.le_refl _) (.cells #[.string f.data, .int .i64 f.safe] 66)
        have hA := H1.out.below hbl
        have hA3 : DkAt Try.prog 63 w3 S m { d' with fs := delF d'.fs k } N := hA.setFs hturn3 hown3 (hA.ok.less k)
        have hbox3 : Blk w3 w1.heap.size 66 #[.string f.data, .int .i64 f.safe] := (Blk.new w1 _ _).tur (Tur.of_map hturn3 (bs := [m]) (by simp)) (by simp; have := H1.out.own.lt; omega)
        have u3 : Tur [S, m] w w3 := (U1.out.trans (Tur.of_below hbl _)).trans (Tur.of_map hturn3 (by simp))
        have HA3 := Lib.hid hA3
        have HBX := Lib.hid hbox3
        have HU3 := Lib.hid u3
        clear hbl hA hA3 hbox3 u3 hturn3 hown3 c0 c1 c2 c3 c1a
        refine Go.Mb.wp_region_tail 6 (by kernel_rfl) (by kernel_rfl) ?_
        intro W hW
        have hbW : Below w3.heap.size w3 W := by rw [hW]; exact ⟨rfl, rfl, rfl, Nat.le_refl _, fun _ _ => rfl⟩
        have hbox : Blk W w1.heap.size 66 #[.string f.data, .int .i64 f.safe] := by rw [hW]; exact HBX.out.drewN 1
        have HW := HA3.out.below hbW
        have k1 := HW.cells.2.1
        have b0 : W.cell? ⟨w1.heap.size, 0, none⟩ = some (.string f.data) := hbox.cell 0
        have b1 : W.cell? ⟨w1.heap.size, 1, none⟩ = some (.int .i64 f.safe) := hbox.cell 1
        have HOW := Lib.hid HW.own
        have HA := Lib.hid HW
        have HBW := Lib.hid hbW
        clear hW hbW hbox HW
        simp only [List.take_succ_cons, List.take_zero, List.drop_succ_cons, List.drop_zero]
        repeat still_step
        refine wpStill_nil ?_
        go_wp2_with (at_mapUpdate; refine wpList_put_file _ rfl _ _ _ 61 rfl 66 Try.keyS Try.underlying61 Try.underlying9 m (delF d'.fs k) rfl HOW.out (by unfold maxLen; omega) ⟨k', f.data, f.safe⟩ rfl rfl hk' ?_; intro w4 hown4 hturn4)
        go_ret
        exact DkSt.mk HR.out rfl (HA.out.setFs hturn4 hown4 HOK.out) ((HU3.out.trans (Tur.of_below HBW.out _)).trans (Tur.of_map hturn4 (by simp)))
end Go.Proofs.Ytfiigdgkgelbkaa
