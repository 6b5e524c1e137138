/-
  The disk's functions that turn its files: Remove, Sync, Rename.
-/
import Derived.Test.YtfiigdgkgelbkaaDk3
namespace Go.Mb
open Go.RowKit Go.WideMaps
theorem Dk.turn_cases (d : Dk) : (∃ d', d.turn = (8, d') ∧ d'.fs = d.fs ∧ d'.room = d.room) ∨ (∃ d', d.turn = (0, d') ∧ d'.fs = d.fs ∧ d'.room = d.room ∧ d'.down = false) := by
  unfold Dk.turn
  cases hd : d.down with
  | true => exact .inl ⟨d, by simp, rfl, rfl⟩
  | false =>
    by_cases h0 : d.fall = 0
    · exact .inl ⟨{ d with down := true }, by simp [h0], rfl, rfl⟩
    · by_cases h1 : 0 < d.fall
      · exact .inr ⟨{ d with fall := d.fall - 1 }, by simp [h0, h1, hd], rfl, rfl, hd⟩
      · exact .inr ⟨d, by simp [h0, h1], rfl, rfl, hd⟩
theorem DkAt.setFs {P : Program} {tS : TypeId} {w w' : World} {S m : Nat} {d : Dk} {N N' : Nat} {fs : List Fl} (h : DkAt P tS w S m d N) (ht : w.mapTurned w' m) (ho : w'.ownsMap P 9 fileR m fs.length (flsD fs)) (hok : DkOk { d with fs := fs } N') : DkAt P tS w' S m { d with fs := fs } N' :=
  ⟨h.blk.tur (Tur.of_map ht (bs := [m]) (by simp)) (by simp; exact h.ne), ho, hok⟩
theorem sumF_filter (p : Fl → Bool) : ∀ fs : List Fl, sumF (fs.filter p) ≤ sumF fs
  | [] => Nat.le_refl _
  | a :: l => by
    have ih := sumF_filter p l
    rw [List.filter_cons]
    split <;> simp only [sumF, List.map_cons, List.sum_cons] at ih ⊢ <;> omega
theorem sumF_insF (f : Fl) : ∀ fs : List Fl, sumF (insF f fs) = f.data.size + sumF fs
  | [] => rfl
  | a :: l => by
    unfold insF
    split
    · rfl
    · have ih := sumF_insF f l
      simp only [sumF, List.map_cons, List.sum_cons] at ih ⊢
      omega
theorem insF_length (f : Fl) : ∀ fs : List Fl, (insF f fs).length = fs.length + 1
  | [] => rfl
  | a :: l => by
    unfold insF
    split
    · rfl
    · rw [List.length_cons, insF_length f l, List.length_cons]
theorem sumF_del {fs : List Fl} (h : SrtF fs) {f : Fl} (hf : f ∈ fs) : sumF fs = f.data.size + sumF (delF fs f.name) := by
  have h1 := leftSum_step (f := f) (left := fun _ => true) rfl h hf
  have e1 : leftSum fs (fun _ => true) = sumF fs := by unfold leftSum; congr 1; simp
  have e2 : leftSum fs (fun z => true && !z.sameKey (keyL f.name)) = sumF (delF fs f.name) := by
    unfold leftSum delF
    congr 1
    refine List.filter_congr fun g _ => ?_
    show (true && !(keyL g.name).sameKey (keyL f.name)) = _
    rw [keyL_same]; rfl
  rw [← e1, h1, e2]
theorem delF_length_lt {fs : List Fl} {f : Fl} (hf : f ∈ fs) : (delF fs f.name).length + 1 ≤ fs.length := by
  unfold delF
  have := List.length_filter_lt_length_iff_exists (p := fun g : Fl => !decide (g.name = f.name)) (l := fs) |>.2 ⟨f, hf, by simp⟩
  omega
theorem delF_none {fs : List Fl} {k : ByteArray} (h : lookF fs k = none) : delF fs k = fs := by
  unfold delF
  rw [List.filter_eq_self]
  intro g hg
  simpa using lookF_none h g hg
/-- a file replaced by one of its own name -/
theorem DkOk.swap {d : Dk} {N : Nat} (h : DkOk d N) {f f' : Fl} (hl : lookF d.fs f'.name = some f) (h1 : (f'.data.size : Int) ≤ f.data.size + d.free) (h2 : 0 ≤ f'.safe ∧ f'.safe ≤ f'.data.size) : DkOk { d with fs := putF d.fs f' } N := by
  obtain ⟨hm, hn⟩ := lookF_some hl
  have hs := sumF_del h.srt hm
  rw [hn] at hs
  have hlen := delF_length_lt hm
  rw [hn] at hlen
  refine ⟨h.room, h.srt.put f', fun g hg => ?_, ?_, ?_, h.fall, fun g hg => ?_⟩
  · rcases putF_mem.1 hg with rfl | ⟨hg, _⟩
    · exact h2
    · exact h.safe g hg
  · show (sumF (insF f' (delF d.fs f'.name)) : Int) ≤ d.room
    rw [sumF_insF]
    unfold Dk.free at h1
    omega
  · show (insF f' (delF d.fs f'.name)).length ≤ N
    rw [insF_length]
    have := h.few
    omega
  · rcases putF_mem.1 hg with rfl | ⟨hg, _⟩
    · rw [← hn]; exact h.names f hm
    · exact h.names g hg
/-- a file more -/
theorem DkOk.more {d : Dk} {N : Nat} (h : DkOk d N) {f' : Fl} (hl : lookF d.fs f'.name = none) (h1 : (f'.data.size : Int) ≤ d.free) (h2 : 0 ≤ f'.safe ∧ f'.safe ≤ f'.data.size) (h3 : f'.name.size ≤ 40) : DkOk { d with fs := putF d.fs f' } (N + 1) := by
  refine ⟨h.room, h.srt.put f', fun g hg => ?_, ?_, ?_, h.fall, fun g hg => ?_⟩
  · rcases putF_mem.1 hg with rfl | ⟨hg, _⟩
    · exact h2
    · exact h.safe g hg
  · show (sumF (insF f' (delF d.fs f'.name)) : Int) ≤ d.room
    rw [sumF_insF, delF_none hl]
    unfold Dk.free at h1
    omega
  · show (insF f' (delF d.fs f'.name)).length ≤ N + 1
    rw [insF_length, delF_none hl]
    have := h.few
    omega
  · rcases putF_mem.1 hg with rfl | ⟨hg, _⟩
    · exact h3
    · exact h.names g hg
/-- a file less -/
theorem DkOk.less {d : Dk} {N : Nat} (h : DkOk d N) (k : ByteArray) : DkOk { d with fs := delF d.fs k } N := by
  refine ⟨h.room, h.srt.del k, fun g hg => h.safe g (List.mem_filter.1 hg).1, ?_, ?_, h.fall, fun g hg => h.names g (List.mem_filter.1 hg).1⟩
  · have := sumF_filter (fun f => !decide (f.name = k)) d.fs
    have := h.fits
    show (sumF (delF d.fs k) : Int) ≤ d.room
    unfold delF
    omega
  · have := List.length_filter_le (fun f : Fl => !decide (f.name = k)) d.fs
    have := h.few
    show (delF d.fs k).length ≤ N
    unfold delF
    omega
theorem DkAt.few {P : Program} {tS : TypeId} {w : World} {S m : Nat} {d : Dk} {N : Nat} (h : DkAt P tS w S m d N) : d.fs.length ≤ N := h.ok.few
theorem DkAt.mono {P : Program} {tS : TypeId} {w : World} {S m : Nat} {d : Dk} {N N' : Nat} (h : DkAt P tS w S m d N) (hN : N ≤ N') : DkAt P tS w S m d N' := ⟨h.blk, h.own, h.ok.mono hN⟩
/-- a region that draws its order: reads, and then one operation that turns something -/
theorem wp_region_tail {P : Program} {id : Nat} {Q : Exit → Act → World → Prop} {a : Act} {w : World} {l : List Oper} (n : Nat) (hm : P.follows .mixedOrders = true) (hB : Region.lexTailB .any l.toArray n = true)
    (h : ∀ W, W = w.drewN 1 → wpStill P l.toArray W (fun a' => wpList P l.toArray Q (l.drop n) a' W) (l.take n) a) : (Code.region id l.toArray true).wp P Q a w :=
  wp_region_still_tail n hm hB (h _ rfl)
theorem Tur.sub {w w' : World} {S m : Nat} (h : Tur [m] w w') : Tur [S, m] w w' := h.mono (by simp)
end Go.Mb
namespace Go.Proofs.Ytfiigdgkgelbkaa
open Go.RowKit Go.Mb

theorem turn_eq (S m N : Nat) (d : Dk) (w : World) (h : DkAt Try.prog 63 w S m d N) {c : Int} {d' : Dk} (hd : d.turn = (c, d')) :
    Calls Try.prog 28 #[.pointer (some ⟨S, 0, none⟩)] w (fun e w' => e = .returned (.int .i64 c) ∧ DkAt Try.prog 63 w' S m d' N ∧ Tur [S, m] w w') := by
  have := turn_any S m N d w h
  rw [hd] at this
  exact this

set_option maxHeartbeats 1000000 in
set_option maxRecDepth 100000 in
theorem remove_any (S m N : Nat) (d : Dk) (k : ByteArray) (w : World) (h : DkAt Try.prog 63 w S m d N) (hk : k.size ≤ maxLen) :
    Calls Try.prog 18 #[.pointer (some ⟨S, 0, none⟩), .string k] w (DkSt Try.prog 63 S m (d.remove k) N w) := by
  rcases d.turn_cases with ⟨d', hd, _, _⟩ | ⟨d', hd, _, _, _⟩
  · have hr : d.remove k = (8, d') := by simp [Dk.remove, hd]
    have HT := Lib.hid (turn_eq S m N d w h hd)
    have HR := Lib.hid hr
    clear hd hr h
    go_enter Try.func18, Try.ntmps18
    go_wp2_with fail
    refine (HT.out).mono ?_
    rintro e w1 ⟨rfl, h1, t1⟩
    have H1 := Lib.hid h1
    have U1 := Lib.hid t1
    clear h1 t1
    go_wp2_with fail
    go_ret
    exact DkSt.mk HR.out rfl H1.out U1.out
  · have HT := Lib.hid (turn_eq S m N d w h hd)
    have hrem : d.remove k = match lookF d'.fs k with | none => (5, d') | some _ => (0, { d' with fs := delF d'.fs k }) := by unfold Dk.remove; rw [hd]; rfl
    have HREM := Lib.hid hrem
    clear hd h hrem
    go_enter Try.func18, Try.ntmps18
    go_wp2_with fail
    refine (HT.out).mono ?_
    rintro e w1 ⟨rfl, h1, t1⟩
    have hhas := has_any S m N d' k w1 h1 hk
    have H1 := Lib.hid h1
    have U1 := Lib.hid t1
    have HH := Lib.hid hhas
    clear h1 t1 hhas
    go_wp2_with fail
    refine (HH.out).mono ?_
    rintro e w2 ⟨rfl, hb⟩
    have h2 := H1.out.below hb
    have t2 : Tur [S, m] w w2 := U1.out.trans (Tur.of_below hb _)
    obtain ⟨c0, c1, c2, c3, fz⟩ := h2.cells
    have H2 := Lib.hid h2
    have U2 := Lib.hid t2
    have HO := Lib.hid h2.own
    clear h2 t2 hb fz
    cases hl : lookF d'.fs k with
    | none =>
      have hr : d.remove k = (5, d') := by rw [HREM.out, hl]
      have HR := Lib.hid hr
      clear hl hr
      go_wp2_with fail
      go_ret
      exact DkSt.mk HR.out rfl H2.out U2.out
    | some f =>
      have hr : d.remove k = (0, { d' with fs := delF d'.fs k }) := by rw [HREM.out, hl]
      have HR := Lib.hid hr
      clear hl hr
      go_wp2_with (at_delete; refine wpList_del_file _ rfl _ _ 61 rfl 66 Try.keyS Try.underlying61 Try.underlying9 m d'.fs.length d'.fs rfl HO.out k rfl hk ?_; intro w3 hown3 hturn3)
      go_ret
      exact DkSt.mk HR.out rfl (H2.out.setFs hturn3 hown3 (H2.out.ok.less k)) (U2.out.trans (Tur.of_map hturn3 (by simp)))

set_option maxHeartbeats 1000000 in
set_option maxRecDepth 100000 in
theorem sync_any (S m N : Nat) (d : Dk) (k : ByteArray) (w : World) (h : DkAt Try.prog 63 w S m d N) (hN : N ≤ 1000000) (hk : k.size ≤ maxLen) :
    Calls Try.prog 19 #[.pointer (some ⟨S, 0, none⟩), .string k] w (DkSt Try.prog 63 S m (d.sync k) N w) := by
  rcases d.turn_cases with ⟨d', hd, _, _⟩ | ⟨d', hd, _, _, _⟩
  · have hr : d.sync k = (8, d') := by simp [Dk.sync, hd]
    have HT := Lib.hid (turn_eq S m N d w h hd)
    have HR := Lib.hid hr
    clear hd hr h
    go_enter Try.func19, Try.ntmps19
    go_wp2_with fail
    refine (HT.out).mono ?_
    rintro e w1 ⟨rfl, h1, t1⟩
    have H1 := Lib.hid h1
    have U1 := Lib.hid t1
    clear h1 t1
    go_wp2_with fail
    go_ret
    exact DkSt.mk HR.out rfl H1.out U1.out
  · have HT := Lib.hid (turn_eq S m N d w h hd)
    have hrem : d.sync k = match lookF d'.fs k with | none => (5, d') | some f => (0, { d' with fs := putF d'.fs ⟨k, f.data, f.data.size⟩ }) := by unfold Dk.sync; rw [hd]; rfl
    have HREM := Lib.hid hrem
    clear hd h hrem
    go_enter Try.func19, Try.ntmps19
    go_wp2_with fail
    refine (HT.out).mono ?_
    rintro e w1 ⟨rfl, h1, t1⟩
    obtain ⟨c0, c1, c2, c3, fz⟩ := h1.cells
    have H1 := Lib.hid h1
    have U1 := Lib.hid t1
    have HO := Lib.hid h1.own
    have hfew := h1.few
    clear h1 t1 fz
    cases hl : lookF d'.fs k with
    | none =>
      have hr : d.sync k = (5, d') := by rw [HREM.out, hl]
      have hv : FileV d'.fs k ⟨#[]⟩ 0 false := by unfold FileV; rw [hl]; exact ⟨rfl, rfl, rfl⟩
      have HR := Lib.hid hr
      have HV := Lib.hid hv
      clear hl hr hv
      go_wp2_with (at_lookup; refine wpList_look_file_ok _ rfl _ _ 61 rfl 66 Try.keyS Try.underlying61 Try.underlying9 (Try.fileZ _) m d'.fs.length d'.fs rfl HO.out k rfl hk _ _ _ HV.out ?_)
      go_ret
      have hb := (Below.refl w1.heap.size w1).alloc (Nat.le_refl _) (.cells #[.string ⟨#[]⟩, .int .i64 0] 66)
      exact DkSt.mk HR.out rfl (H1.out.below hb) (U1.out.trans (Tur.of_below hb _))
    | some f =>
      have hr : d.sync k = (0, { d' with fs := putF d'.fs ⟨k, f.data, f.data.size⟩ }) := by rw [HREM.out, hl]
      have hv : FileV d'.fs k f.data f.safe true := by unfold FileV; rw [hl]; exact ⟨rfl, rfl, rfl⟩
      have hm := lookF_some hl
      have hsz : (f.data.size : Int) ≤ 1048576 := by
        have h3 := sumF_del H1.out.ok.srt hm.1
        have h4 := H1.out.ok.fits
        have h5 := H1.out.ok.room.2
        omega
      have hfree : 0 ≤ d'.free := by have := H1.out.ok.fits; unfold Dk.free; omega
      have hok := H1.out.ok.swap (f' := ⟨k, f.data, f.data.size⟩) hl (by simp only; omega) ⟨by simp, by simp⟩
      have HR := Lib.hid hr
      have HV := Lib.hid hv
      have HOK := Lib.hid hok
      clear hl hr hv hm hok hfree
      go_wp2_with (at_lookup; refine wpList_look_file_ok _ rfl _ _ 61 rfl 66 Try.keyS Try.underlying61 Try.underlying9 (Try.fileZ _) m d'.fs.length d'.fs rfl HO.out k rfl hk _ _ _ HV.out ?_)
      refine Go.Mb.wp_region_tail 6 (by kernel_rfl) (by kernel_rfl) ?_
      intro W hW
      have hbW : Below w1.heap.size w1 W := by rw [hW]; exact ((Below.refl _ _).alloc (Nat.le_refl _) _).trans ⟨rfl, rfl, rfl, Nat.le_refl _, fun _ _ => rfl⟩
      have hbox : Blk W w1.heap.size 66 #[.string f.data, .int .i64 f.data.size] := by rw [hW]; exact Blk.new w1 _ _
      have HW := H1.out.below hbW
      have k1 := HW.cells.2.1
      have b0 : W.cell? ⟨w1.heap.size, 0, none⟩ = some (.string f.data) := hbox.cell 0
      have b1 : W.cell? ⟨w1.heap.size, 1, none⟩ = some (.int .i64 f.data.size) := hbox.cell 1
      have HOW := Lib.hid HW.own
      have HA := Lib.hid HW
      have HBW := Lib.hid hbW
      clear hW hbW hbox HW c0 c1 c2 c3
      simp only [List.take_succ_cons, List.take_zero, List.drop_succ_cons, List.drop_zero]
      repeat still_step
      refine wpStill_nil ?_
      go_wp2_with (at_mapUpdate; refine wpList_put_file _ rfl _ _ _ 61 rfl 66 Try.keyS Try.underlying61 Try.underlying9 m d'.fs rfl HOW.out (by unfold maxLen; omega) ⟨k, f.data, f.data.size⟩ rfl rfl hk ?_; intro w3 hown3 hturn3)
      go_ret
      exact DkSt.mk HR.out rfl (HA.out.setFs hturn3 hown3 HOK.out) ((U1.out.trans (Tur.of_below HBW.out _)).trans (Tur.of_map hturn3 (by simp)))
end Go.Proofs.Ytfiigdgkgelbkaa
