/-
  The disk's New and Clone.
-/
import Derived.Test.YtfiigdgkgelbkaaDk6
import Derived.Laws.Externs
import Derived.MapKept
namespace Go.Mb
open Go.RowKit
section
variable {P : Program} (w : World)
theorem eqIn_map_nil (d : Nat) (t k e : TypeId) (p : Option Nat) (h : P.underlying t = some (.map k e)) : (Op.equalIn (d + 1) t (.map p) (.map none)).run P w = .ok p.isNone w := by
  cases p <;> simp [Op.equalIn, run_underlying h]
theorem eql_map_nil (t k e : TypeId) (p : Option Nat) (h : P.underlying t = some (.map k e)) : (binOp .eql t (.map p) (.map none)).run P w = .ok (.bool p.isNone) w := by
  simp only [binOp]
  simp [show Op.equal t (.map p) (.map none) = Op.equalIn (9999 + 1) t (.map p) (.map none) from rfl, eqIn_map_nil w 9999 t k e p h]
theorem typeAssert_map (t xT k e : TypeId) (v : Value) (h : P.underlying t = some (.map k e)) : (Instr.typeAssert (.iface t v) xT t false).run P w = .ok v w := by
  simp [Instr.typeAssert, run_underlying h, go_sem, Result.andThen]
theorem run_clone_map {r : Nat} {es : Array MapEntry} {clock : Nat} (t : TypeId) (hb : w.heap[r]? = some (.map es clock)) :
    (Extern.MapsClone.clone #[.iface t (.map (some r))]).run P w = .ok (.iface t (.map (some w.heap.size))) (w.alloc (.map es clock)) := by
  have e : Extern.MapsClone.clone #[.iface t (.map (some r))] = (getObj r >>= fun o => match o with
      | .map entries clock => (newObj (.map entries clock) >>= fun n => pure (.iface t (.map (some n))))
      | _ => stuck "maps.clone: a map expected") := rfl
  rw [e]
  simp [MapKept.run_getObj_map hb, Result.andThen, go_sem]
end
theorem Blk.new2 (w : World) (o : Obj) (t : TypeId) (cs : Array Value) : Blk ((w.alloc o).alloc (.cells cs t)) (w.heap.size + 1) t cs := by
  have := Blk.new (w.alloc o) t cs
  rw [World.size_alloc] at this
  exact this
/-- a new disk -/
def Dk.made (room : Int) : Dk := ⟨min (max room 0) 1048576, [], false, -1⟩
theorem Dk.made_ok (room : Int) (N : Nat) : DkOk (Dk.made room) N :=
  ⟨by unfold Dk.made; simp only; omega, List.Pairwise.nil, by simp [Dk.made], by simp [Dk.made, sumF]; omega, by simp [Dk.made], by simp [Dk.made], by simp [Dk.made]⟩
/-- a function that hands back a disk of its own -/
def DkNew (P : Program) (tS : TypeId) (d : Dk) (N : Nat) (w : World) (e : Ending) (w' : World) : Prop :=
  ∃ S m, e = .returned (.pointer (some ⟨S, 0, none⟩)) ∧ DkAt P tS w' S m d N ∧ w.heap.size ≤ S ∧ w.heap.size ≤ m ∧ Below w.heap.size w w'
end Go.Mb
namespace Go.Proofs.Ytfiigdgkgelbkaa
open Go.RowKit Go.Mb

set_option maxHeartbeats 1000000 in
set_option maxRecDepth 100000 in
theorem new_any (room : Int) (N : Nat) (w : World) : Calls Try.prog 11 #[.int .i64 room] w (DkNew Try.prog 63 (Dk.made room) N w) := by
  have hmm := @run_makeMap Try.prog
  have hown := World.ownsMap_made w Try.prog 9 fileR
  have HO := Lib.hid hown
  clear hown
  rcases (show (room < 0 ∧ min (max room 0) 1048576 = 0) ∨ (0 ≤ room ∧ room ≤ 1048576 ∧ min (max room 0) 1048576 = room) ∨ (1048576 < room ∧ min (max room 0) 1048576 = 1048576) by omega) with ⟨h, hm⟩ | ⟨h, h2, hm⟩ | ⟨h, hm⟩
  all_goals
    have he : (⟨min (max room 0) 1048576, [], false, -1⟩ : Dk) = _ := congrArg (fun x => (⟨x, [], false, -1⟩ : Dk)) hm
    have HE := Lib.hid he
    have hok := Dk.made_ok room N
    unfold Dk.made at hok
    rw [hm] at hok
    have HOK := Lib.hid hok
    clear he hok hm
    go_enter Try.func11, Try.ntmps11
    go_wp2_with fail
    go_ret
    refine ⟨w.heap.size + 1, w.heap.size, rfl, ?_, by omega, Nat.le_refl _, ((Below.refl _ _).alloc (Nat.le_refl _) _).alloc (by simp) _⟩
    unfold Dk.made
    rw [HE.out]
    exact ⟨Blk.new2 w _ _ _, HO.out.alloc _, HOK.out⟩

set_option maxHeartbeats 1000000 in
set_option maxRecDepth 100000 in
theorem mapsClone_any (b : Nat) (es : Array MapEntry) (clock : Nat) (w : World) (hb : w.heap[b]? = some (.map es clock)) :
    Calls Try.prog 36 #[.map (some b)] w fun e w' => e = .returned (.map (some w.heap.size)) ∧ w' = w.alloc (.map es clock) := by
  have hq := fun w => eql_map_nil (P := Try.prog) w 61 9 66 (some b) Try.underlying61
  have HB := Lib.hid hb
  clear hb
  go_enter Try.func36, Try.ntmps36
  go_wp2
  rw [run_callFunc_extern Try.func40 (by kernel_rfl) (by kernel_rfl) (by kernel_rfl) (e := Extern.MapsClone.clone) (by kernel_rfl), run_clone_map w 61 HB.out]
  simp only [Result.andThen]
  rw [Oper.upon_value]
  go_wp2
  rw [typeAssert_map _ 61 20 _ _ _ Try.underlying61]
  simp only [Result.andThen]
  rw [Oper.upon_value]
  go_wp2
  go_ret
  exact ⟨rfl, rfl⟩

set_option maxHeartbeats 1000000 in
set_option maxRecDepth 100000 in
theorem clone_any (S m N : Nat) (d : Dk) (w : World) (h : DkAt Try.prog 63 w S m d N) : Calls Try.prog 26 #[.pointer (some ⟨S, 0, none⟩)] w (DkNew Try.prog 63 d N w) := by
  obtain ⟨c0, c1, c2, c3, fz⟩ := h.cells
  have hlt := h.blk.lt
  have hml := h.own.lt
  obtain ⟨es, clock, hb, F, hs, hD⟩ := h.own
  have hl4 : w.cell? ⟨S, 4, none⟩ = none := h.blk.cell 4
  have HB := Lib.hid hb
  have HF := Lib.hid F
  have HS := Lib.hid hs
  have HDD := Lib.hid hD
  have HOK := Lib.hid h.ok
  have HH := Lib.hid h
  clear h hb F hs hD fz
  go_enter Try.func26, Try.ntmps26
  go_wp2_with fail
  obtain ⟨W0, hW0⟩ : ∃ W, W = w.alloc (Obj.cells #[.int .i64 d.room, .map (some m), .bool d.down, .int .i64 d.fall] 63) := ⟨_, rfl⟩
  rw [← hW0]
  have hb0 : Below w.heap.size w W0 := by rw [hW0]; exact (Below.refl _ _).alloc (Nat.le_refl _) _
  have hblk : Blk W0 w.heap.size 63 #[.int .i64 d.room, .map (some m), .bool d.down, .int .i64 d.fall] := by rw [hW0]; exact Blk.new _ _ _
  have hsz : W0.heap.size = w.heap.size + 1 := by rw [hW0]; simp
  have hmb : W0.heap[m]? = some (.map es clock) := (hb0.block m hml).trans HB.out
  refine (mapsClone_any m es clock W0 hmb).mono ?_
  rintro e w' ⟨rfl, rfl⟩
  have hb1 : Below W0.heap.size W0 (W0.alloc (.map es clock)) := (Below.refl _ _).alloc (Nat.le_refl _) _
  have hblk1 : Blk (W0.alloc (.map es clock)) w.heap.size 63 #[.int .i64 d.room, .map (some m), .bool d.down, .int .i64 d.fall] := hblk.chg (Chg.of_below hb1 0 []) (.inr (by simp))
  have hmap1 : (W0.alloc (.map es clock)).heap[W0.heap.size]? = some (.map es clock) := (MapKept.heap_alloc W0 _).1
  obtain ⟨W1, hW1⟩ : ∃ W, W = W0.alloc (.map es clock) := ⟨_, rfl⟩
  rw [← hW1] at hb1 hblk1 hmap1 ⊢
  have k1 : W1.cell? ⟨w.heap.size, 1, none⟩ = some (.map (some m)) := hblk1.cell 1
  have k1f : W1.frozen? ⟨w.heap.size, 1, none⟩ = false := hblk1.frozen 1
  have HBL := Lib.hid hblk1
  have HM := Lib.hid hmap1
  have HB1 := Lib.hid hb1
  have HB0 := Lib.hid hb0
  have HSZ := Lib.hid hsz
  clear hW0 hW1 hb0 hblk hmb hb1 hblk1 hmap1 c0 c1 c2 c3 hl4 hsz
  go_wp2_with fail
  go_ret
  have hsz := HSZ.out
  refine ⟨w.heap.size, W0.heap.size, rfl, ⟨HBL.out.set_ 1 (.map (some W0.heap.size)), World.ownsMap.setCell ⟨es, clock, HM.out, HF.out, HS.out, HDD.out⟩ (by simp; omega) _, HOK.out⟩, Nat.le_refl _, by omega, ?_⟩
  exact (HB0.out.trans (HB1.out.mono (by omega))).setCell (p := ⟨w.heap.size, 1, none⟩) (Nat.le_refl _) _
end Go.Proofs.Ytfiigdgkgelbkaa
