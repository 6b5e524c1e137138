/-
  The disk's small functions: turn, Down, has, Fall, Read, Remove.
-/
import Derived.Test.YtfiigdgkgelbkaaDk1
namespace Go.Mb
open Go.RowKit
theorem DkAt.cells {P : Program} {tS : TypeId} {w : World} {S m : Nat} {d : Dk} {N : Nat} (h : DkAt P tS w S m d N) :
    w.cell? ⟨S, 0, none⟩ = some (.int .i64 d.room) ∧ w.cell? ⟨S, 1, none⟩ = some (.map (some m)) ∧ w.cell? ⟨S, 2, none⟩ = some (.bool d.down) ∧ w.cell? ⟨S, 3, none⟩ = some (.int .i64 d.fall) ∧ ∀ i, w.frozen? ⟨S, i, none⟩ = false :=
  ⟨h.blk.cell 0, h.blk.cell 1, h.blk.cell 2, h.blk.cell 3, fun i => h.blk.frozen i⟩
theorem DkAt.setDown {P : Program} {tS : TypeId} {w : World} {S m : Nat} {d : Dk} {N : Nat} (h : DkAt P tS w S m d N) (b : Bool) : DkAt P tS (w.setCell ⟨S, 2, none⟩ (.bool b)) S m { d with down := b } N :=
  ⟨h.blk.set_ 2 (.bool b), h.own.setCell (fun e => h.ne e.symm) _, ⟨h.ok.room, h.ok.srt, h.ok.safe, h.ok.fits, h.ok.few, h.ok.fall, h.ok.names⟩⟩
theorem DkAt.setFall {P : Program} {tS : TypeId} {w : World} {S m : Nat} {d : Dk} {N : Nat} (h : DkAt P tS w S m d N) (n : Int) (hn : -1 ≤ n ∧ n ≤ 9223372036854775807) : DkAt P tS (w.setCell ⟨S, 3, none⟩ (.int .i64 n)) S m { d with fall := n } N :=
  ⟨h.blk.set_ 3 (.int .i64 n), h.own.setCell (fun e => h.ne e.symm) _, ⟨h.ok.room, h.ok.srt, h.ok.safe, h.ok.fits, h.ok.few, hn, h.ok.names⟩⟩
/-- what a function that turns a disk comes to -/
def DkSt (P : Program) (tS : TypeId) (S m : Nat) (r : Int × Dk) (N : Nat) (w : World) (e : Ending) (w' : World) : Prop :=
  e = .returned (.int .i64 r.1) ∧ DkAt P tS w' S m r.2 N ∧ Tur [S, m] w w'
theorem DkSt.mk {P : Program} {tS : TypeId} {S m : Nat} {r : Int × Dk} {N : Nat} {w : World} {e : Ending} {w' : World} {c : Int} {d : Dk} (hr : r = (c, d)) (h1 : e = .returned (.int .i64 c)) (h2 : DkAt P tS w' S m d N) (h3 : Tur [S, m] w w') : DkSt P tS S m r N w e w' := by
  subst hr; exact ⟨h1, h2, h3⟩
end Go.Mb
namespace Go.Proofs.Ytfiigdgkgelbkaa
open Go.RowKit Go.Mb

theorem Try.fileZ (w : World) : (zeroValue 66).run Try.prog w = .ok (.agg #[.string ⟨#[]⟩, .int .i64 0]) w := by kernel_rfl
theorem Try.field66 (s : ByteArray) (n : Int) (w : World) : (Instr.field 66 (.agg #[.string s, .int .i64 n]) 0).run Try.prog w = .ok (.string s) w := by kernel_rfl
theorem Try.keyS : Maps.Keyed Try.prog 9 := Maps.string_keyed Try.underlying9

set_option maxRecDepth 100000 in
theorem turn_any (S m N : Nat) (d : Dk) (w : World) (h : DkAt Try.prog 63 w S m d N) : Calls Try.prog 28 #[.pointer (some ⟨S, 0, none⟩)] w (DkSt Try.prog 63 S m d.turn N w) := by
  obtain ⟨c0, c1, c2, c3, fz⟩ := h.cells
  have f2 := fz 2
  have f3 := fz 3
  have hf := h.ok.fall
  obtain ⟨room, fs, down, fall⟩ := d
  simp only at c0 c1 c2 c3 hf
  have HH := Lib.hid h
  clear h fz
  cases down with
  | true =>
    have hr : Dk.turn ⟨room, fs, true, fall⟩ = (8, ⟨room, fs, true, fall⟩) := rfl
    have HR := Lib.hid hr
    clear hr
    go_enter Try.func28, Try.ntmps28
    go_wp2_with fail
    go_ret
    exact DkSt.mk HR.out rfl HH.out (Tur.refl _ _)
  | false =>
    by_cases h0 : fall = 0
    · have hr : Dk.turn ⟨room, fs, false, fall⟩ = (8, ⟨room, fs, true, fall⟩) := by simp [Dk.turn, h0]
      have HR := Lib.hid hr
      clear hr
      have h0' : (fall == 0) = true := by simpa using h0
      clear h0
      go_enter Try.func28, Try.ntmps28
      go_wp2_with fail
      go_ret
      exact DkSt.mk HR.out rfl (HH.out.setDown true) (Tur.setCell _ _ (by simp))
    · have h0' : (fall == 0) = false := by simpa using h0
      by_cases h1 : 0 < fall
      · have hr : Dk.turn ⟨room, fs, false, fall⟩ = (0, ⟨room, fs, false, fall - 1⟩) := by simp [Dk.turn, h0, h1]
        have HR := Lib.hid hr
        clear hr h0
        go_enter Try.func28, Try.ntmps28
        go_wp2_with fail
        go_ret
        exact DkSt.mk HR.out rfl (HH.out.setFall (fall - 1) (by omega)) (Tur.setCell _ _ (by simp))
      · have hr : Dk.turn ⟨room, fs, false, fall⟩ = (0, ⟨room, fs, false, fall⟩) := by simp [Dk.turn, h0, h1]
        have HR := Lib.hid hr
        clear hr h0
        go_enter Try.func28, Try.ntmps28
        go_wp2_with fail
        go_ret
        exact DkSt.mk HR.out rfl HH.out (Tur.refl _ _)

set_option maxRecDepth 100000 in
theorem down_any (S m N : Nat) (d : Dk) (w : World) (h : DkAt Try.prog 63 w S m d N) : Calls Try.prog 14 #[.pointer (some ⟨S, 0, none⟩)] w (fun e w' => e = .returned (.bool d.down) ∧ w' = w) := by
  obtain ⟨c0, c1, c2, c3, fz⟩ := h.cells
  clear h fz
  go_enter Try.func14, Try.ntmps14
  go_wp2_with fail
  go_ret
  exact ⟨rfl, rfl⟩

set_option maxRecDepth 100000 in
theorem falls_any (S m N : Nat) (d : Dk) (n : Int) (w : World) (h : DkAt Try.prog 63 w S m d N) (hn : n ≤ 9223372036854775807) :
    Calls Try.prog 12 #[.pointer (some ⟨S, 0, none⟩), .int .i64 n] w (fun e w' => e = .returned (.tuple #[]) ∧ DkAt Try.prog 63 w' S m (d.falls n) N ∧ Tur [S, m] w w') := by
  obtain ⟨c0, c1, c2, c3, fz⟩ := h.cells
  have f3 := fz 3
  have HH := Lib.hid h
  clear h fz
  by_cases h0 : 0 ≤ n
  · have hr : max n 0 = n := by omega
    have HR := Lib.hid hr
    clear hr
    go_enter Try.func12, Try.ntmps12
    go_wp2_with fail
    all_goals (go_end0)
    all_goals (refine ⟨rfl, ?_, Tur.setCell _ _ (by simp)⟩; unfold Dk.falls; rw [HR.out]; exact HH.out.setFall n (by omega))
  · have hr : max n 0 = 0 := by omega
    have HR := Lib.hid hr
    clear hr
    go_enter Try.func12, Try.ntmps12
    go_wp2_with fail
    all_goals (go_end0)
    all_goals (refine ⟨rfl, ?_, Tur.setCell _ _ (by simp)⟩; unfold Dk.falls; rw [HR.out]; exact HH.out.setFall 0 (by omega))

set_option maxRecDepth 100000 in
theorem has_any (S m N : Nat) (d : Dk) (k : ByteArray) (w : World) (h : DkAt Try.prog 63 w S m d N) (hk : k.size ≤ maxLen) :
    Calls Try.prog 31 #[.pointer (some ⟨S, 0, none⟩), .string k] w (fun e w' => e = .returned (.bool (lookF d.fs k).isSome) ∧ Below w.heap.size w w') := by
  obtain ⟨c0, c1, c2, c3, fz⟩ := h.cells
  obtain ⟨s, n, there, hv⟩ := fileV_ex d.fs k
  have hth := hv.has
  have HO := Lib.hid h.own
  have HV := Lib.hid hv
  have HT := Lib.hid hth
  clear h fz hv hth
  go_enter Try.func31, Try.ntmps31
  go_wp2_with (at_lookup; refine wpList_look_file_ok _ rfl _ _ 61 rfl 66 Try.keyS Try.underlying61 Try.underlying9 (Try.fileZ _) m d.fs.length d.fs rfl HO.out k rfl hk s n there HV.out ?_)
  go_ret
  exact ⟨congrArg (fun b => Ending.returned (.bool b)) HT.out, (Below.refl _ _).alloc (Nat.le_refl _) _⟩

set_option maxRecDepth 100000 in
theorem read_any (S m N : Nat) (d : Dk) (k : ByteArray) (w : World) (h : DkAt Try.prog 63 w S m d N) (hk : k.size ≤ maxLen) :
    Calls Try.prog 16 #[.pointer (some ⟨S, 0, none⟩), .string k] w (fun e w' => e = .returned (.tuple #[.string (d.read k).1, .int .i64 (d.read k).2]) ∧ Below w.heap.size w w') := by
  obtain ⟨c0, c1, c2, c3, fz⟩ := h.cells
  obtain ⟨s, n, there, hv⟩ := fileV_ex d.fs k
  obtain ⟨room, fs, down, fall⟩ := d
  simp only at c0 c1 c2 c3 hv
  have hdown := down_any S m N _ w h
  have hhas := has_any S m N _ k w h hk
  have HO := Lib.hid h.own
  have HA := Lib.hid h
  have HD := Lib.hid hdown
  have HH := Lib.hid hhas
  cases down with
  | true =>
    clear hdown hhas h fz hv
    go_enter Try.func16, Try.ntmps16
    go_wp2_with (go_at_call 14; refine (HD.out).mono ?_; rintro e w' ⟨rfl, rfl⟩)
    go_ret2
    exact ⟨rfl, Below.refl _ _⟩
  | false =>
    cases hl : lookF fs k with
    | none =>
      have hr : Dk.read ⟨room, fs, false, fall⟩ k = (⟨#[]⟩, 5) := by simp [Dk.read, hl]
      have HR := Lib.hid hr
      have HL := Lib.hid hl
      clear hdown hhas h fz hv hl hr
      go_enter Try.func16, Try.ntmps16
      go_wp2_with fail
      refine (HD.out).mono ?_
      rintro e w' ⟨rfl, rfl⟩
      go_wp2_with fail
      refine (HH.out).mono ?_
      rintro e w1 ⟨rfl, hb⟩
      rw [HL.out]
      go_wp2_with fail
      go_ret2
      rw [HR.out]
      exact ⟨rfl, hb⟩
    | some f =>
      have hr : Dk.read ⟨room, fs, false, fall⟩ k = (f.data, 0) := by simp [Dk.read, hl]
      have hv' : FileV fs k f.data f.safe true := by unfold FileV; rw [hl]; exact ⟨rfl, rfl, rfl⟩
      have HR := Lib.hid hr
      have HL := Lib.hid hl
      have HV := Lib.hid hv'
      clear hdown hhas h fz hv hl hr hv'
      go_enter Try.func16, Try.ntmps16
      go_wp2_with fail
      refine (HD.out).mono ?_
      rintro e w' ⟨rfl, rfl⟩
      go_wp2_with fail
      refine (HH.out).mono ?_
      rintro e w1 ⟨rfl, hb⟩
      have HA1 := HA.out.below hb
      have k1 := HA1.cells.2.1
      have HO1 := Lib.hid HA1.own
      have HB := Lib.hid hb
      clear HA1 hb c0 c1 c2 c3
      have hfd := Try.field66
      rw [HL.out]
      go_wp2_with (at_lookup; refine wpList_look_file _ rfl _ _ 61 rfl 66 Try.keyS Try.underlying61 Try.underlying9 (Try.fileZ _) m fs.length fs rfl HO1.out k rfl hk f.data f.safe true HV.out ?_)
      go_ret2
      rw [HR.out]
      exact ⟨rfl, HB.out⟩

end Go.Proofs.Ytfiigdgkgelbkaa
