/-
  The library's slices.Sorted(maps.Keys(m)) at this program: the shelf's contracts laid at its numbers, in plain words (lay-iter.mjs's print, its three commands written out). No condition.
-/
import Derived.Shelf.SlIter.Nil
import Derived.Shelf.SortM.Plain
import Derived.Shelf.SortM.SortNone
import Derived.Test.YtfiigdgkgelbkaaProg
namespace Go.Proofs.Ytfiigdgkgelbkaa
open Go.RowKit Go.Maps Go.Sort Go.Shelf

def Try.keys30_ren : Go.Shelf.Ren := ⟨fun | 7 => 30 | 10 => 39 | n => n, fun | 23 => 61 | 26 => 9 | 3 => 66 | 28 => 69 | 0 => 0 | 27 => 68 | 33 => 71 | 4 => 4 | n => n, fun | n => n⟩
theorem Try.keys30 : Go.Proofs.SlLaysZ.n7 Try.prog Try.keys30_ren := {
  mixed := by kernel_rfl
  f7 := ⟨Try.f30.name, by decide, Try.func30.trans (congrArg some (by kernel_rfl))⟩
  f10 := ⟨Try.f39.name, by decide, Try.func39.trans (congrArg some (by kernel_rfl))⟩
  t0 := Try.underlying0
  a0 := Try.isAgg0
  z0 := Try.sizeOf0
  v0 := Try.zeroValue0
  t4 := Try.underlying4
  a4 := Try.isAgg4
  z4 := Try.sizeOf4
  v4 := Try.zeroValue4
  t23 := Try.underlying61
  a23 := Try.isAgg61
  z23 := Try.sizeOf61
  v23 := Try.zeroValue61
  t26 := Try.underlying9
  a26 := Try.isAgg9
  z26 := Try.sizeOf9
  v26 := Try.zeroValue9
  t27 := Try.underlying68
  a27 := Try.isAgg68
  z27 := Try.sizeOf68
  v27 := Try.zeroValue68
  t28 := Try.underlying69
  a28 := Try.isAgg69
  z28 := Try.sizeOf69
  v28 := Try.zeroValue69
  t33 := Try.underlying71
  a33 := Try.isAgg71
  z33 := Try.sizeOf71
  v33 := Try.zeroValue71 }

def Try.sorted29_ren : Go.Shelf.Ren := ⟨fun | 6 => 29 | 8 => 37 | 9 => 38 | 11 => 41 | 13 => 43 | 12 => 42 | 23 => 53 | 24 => 54 | 14 => 44 | 15 => 45 | 16 => 46 | 17 => 47 | 18 => 48 | 19 => 49 | 20 => 50 | 21 => 51 | 22 => 52 | 25 => 55 | 26 => 56 | 27 => 57 | 28 => 58 | 29 => 59 | 30 => 60 | 31 => 61 | n => n, fun | 26 => 9 | 28 => 69 | 24 => 58 | 0 => 0 | 3 => 3 | 37 => 73 | 48 => 92 | 50 => 94 | 4 => 4 | 40 => 85 | 39 => 84 | 45 => 74 | 5 => 5 | 9 => 9 | 51 => 95 | 55 => 99 | 57 => 101 | 58 => 102 | 33 => 71 | n => n, fun | n => n⟩
theorem Try.sorted29 : Go.Proofs.SlLaysZ.n6 Try.prog Try.sorted29_ren := {
  mixed := by kernel_rfl
  f6 := ⟨Try.f29.name, by decide, Try.func29.trans (congrArg some (by kernel_rfl))⟩
  f8 := ⟨Try.f37.name, by decide, Try.func37.trans (congrArg some (by kernel_rfl))⟩
  f11 := ⟨Try.f41.name, by decide, Try.func41.trans (congrArg some (by kernel_rfl))⟩
  t0 := Try.underlying0
  a0 := Try.isAgg0
  z0 := Try.sizeOf0
  v0 := Try.zeroValue0
  t24 := Try.underlying58
  a24 := Try.isAgg58
  z24 := Try.sizeOf58
  v24 := Try.zeroValue58
  t26 := Try.underlying9
  a26 := Try.isAgg9
  z26 := Try.sizeOf9
  v26 := Try.zeroValue9
  t28 := Try.underlying69
  a28 := Try.isAgg69
  z28 := Try.sizeOf69
  v28 := Try.zeroValue69
  i26 := by kernel_rfl }

def Try.sort38_ren : Go.Shelf.Ren := ⟨fun | 6 => 38 | 8 => 43 | 9 => 42 | 19 => 53 | 20 => 54 | 21 => 44 | 22 => 45 | 23 => 46 | 24 => 47 | 25 => 48 | 26 => 49 | 27 => 50 | 28 => 51 | 29 => 52 | 36 => 55 | 31 => 56 | 32 => 57 | 37 => 58 | 38 => 59 | 39 => 60 | 41 => 61 | n => n, fun | 27 => 58 | 29 => 9 | 3 => 3 | 32 => 73 | 26 => 58 | 0 => 0 | 44 => 92 | 46 => 94 | 4 => 4 | 36 => 85 | 35 => 84 | 41 => 74 | 5 => 5 | 9 => 9 | 53 => 95 | 57 => 99 | 63 => 101 | 64 => 102 | n => n, fun | n => n⟩
theorem Try.sort38 : Go.Proofs.SlLaysM.n6 Try.prog Try.sort38_ren := {
  mixed := by kernel_rfl
  f6 := ⟨Try.f38.name, by decide, Try.func38.trans (congrArg some (by kernel_rfl))⟩
  f8 := Try.func43.trans (congrArg some (by kernel_rfl))
  f9 := ⟨Try.f42.name, by decide, Try.func42.trans (congrArg some (by kernel_rfl))⟩
  f19 := Try.func53.trans (congrArg some (by kernel_rfl))
  f20 := Try.func54.trans (congrArg some (by kernel_rfl))
  f21 := ⟨Try.f44.name, by decide, Try.func44.trans (congrArg some (by kernel_rfl))⟩
  f22 := ⟨Try.f45.name, by decide, Try.func45.trans (congrArg some (by kernel_rfl))⟩
  f23 := ⟨Try.f46.name, by decide, Try.func46.trans (congrArg some (by kernel_rfl))⟩
  f24 := ⟨Try.f47.name, by decide, Try.func47.trans (congrArg some (by kernel_rfl))⟩
  f25 := ⟨Try.f48.name, by decide, Try.func48.trans (congrArg some (by kernel_rfl))⟩
  f26 := ⟨Try.f49.name, by decide, Try.func49.trans (congrArg some (by kernel_rfl))⟩
  f27 := ⟨Try.f50.name, by decide, Try.func50.trans (congrArg some (by kernel_rfl))⟩
  f28 := ⟨Try.f51.name, by decide, Try.func51.trans (congrArg some (by kernel_rfl))⟩
  f29 := ⟨Try.f52.name, by decide, Try.func52.trans (congrArg some (by kernel_rfl))⟩
  f31 := Try.func56.trans (congrArg some (by kernel_rfl))
  f32 := Try.func57.trans (congrArg some (by kernel_rfl))
  f36 := ⟨Try.f55.name, by decide, Try.func55.trans (congrArg some (by kernel_rfl))⟩
  f37 := ⟨Try.f58.name, by decide, Try.func58.trans (congrArg some (by kernel_rfl))⟩
  f38 := ⟨Try.f59.name, by decide, Try.func59.trans (congrArg some (by kernel_rfl))⟩
  f39 := ⟨Try.f60.name, by decide, Try.func60.trans (congrArg some (by kernel_rfl))⟩
  f41 := ⟨Try.f61.name, by decide, Try.func61.trans (congrArg some (by kernel_rfl))⟩
  t0 := Try.underlying0
  a0 := Try.isAgg0
  z0 := Try.sizeOf0
  v0 := Try.zeroValue0
  t3 := Try.underlying3
  a3 := Try.isAgg3
  z3 := Try.sizeOf3
  v3 := Try.zeroValue3
  t4 := Try.underlying4
  a4 := Try.isAgg4
  z4 := Try.sizeOf4
  v4 := Try.zeroValue4
  t5 := Try.underlying5
  a5 := Try.isAgg5
  z5 := Try.sizeOf5
  v5 := Try.zeroValue5
  t9 := Try.underlying9
  a9 := Try.isAgg9
  z9 := Try.sizeOf9
  v9 := Try.zeroValue9
  t26 := Try.underlying58
  a26 := Try.isAgg58
  z26 := Try.sizeOf58
  v26 := Try.zeroValue58
  t27 := Try.underlying58
  a27 := Try.isAgg58
  z27 := Try.sizeOf58
  v27 := Try.zeroValue58
  t29 := Try.underlying9
  a29 := Try.isAgg9
  z29 := Try.sizeOf9
  v29 := Try.zeroValue9
  t32 := Try.underlying73
  a32 := Try.isAgg73
  z32 := Try.sizeOf73
  v32 := Try.zeroValue73
  t35 := Try.underlying84
  a35 := Try.isAgg84
  z35 := Try.sizeOf84
  v35 := Try.zeroValue84
  t36 := Try.underlying85
  a36 := Try.isAgg85
  z36 := Try.sizeOf85
  v36 := Try.zeroValue85
  t41 := Try.underlying74
  a41 := Try.isAgg74
  z41 := Try.sizeOf74
  v41 := Try.zeroValue74
  t44 := Try.underlying92
  a44 := Try.isAgg92
  z44 := Try.sizeOf92
  v44 := Try.zeroValue92
  t46 := Try.underlying94
  a46 := Try.isAgg94
  z46 := Try.sizeOf94
  v46 := Try.zeroValue94
  t53 := Try.underlying95
  a53 := Try.isAgg95
  z53 := Try.sizeOf95
  v53 := Try.zeroValue95
  t57 := Try.underlying99
  a57 := Try.isAgg99
  z57 := Try.sizeOf99
  v57 := Try.zeroValue99
  t63 := Try.underlying101
  a63 := Try.isAgg101
  z63 := Try.sizeOf101
  v63 := Try.zeroValue101
  t64 := Try.underlying102
  a64 := Try.isAgg102
  z64 := Try.sizeOf102
  v64 := Try.zeroValue102 }


/-- slices.Sort's two contracts at this dump, at the fence that asks nothing. -/
theorem Try.sorts29 (m : Nat) : AnyZ.SortsIn Try.prog Try.sorted29_ren Fence.wide m :=
  ⟨fun blk off cap ss W hH hblk hsz => callsIn_wide.2 (AnyM.slices_Sort_string Try.sort38 blk off cap ss W hH hblk hsz),
   fun p cap W => callsIn_wide.2 (AnyM.slices_Sort_string_none Try.sort38 p cap W)⟩

/-- **maps.Keys[map[string]mailbag/disk.file,string,mailbag/disk.file], at whatever map, the nil one too:** a function value over ONE NEW BLOCK, which holds the map. -/
theorem Try.maps_Keys_30 (mb : Option Nat) (W : World) : CallsIn Fence.wide 5 Try.prog 30 #[.map mb] W fun e w' => e = .returned (.func (.func 39) #[] #[.pointer (some ⟨W.heap.size, 0, none⟩)]) ∧ w' = W.alloc (.cells #[.map mb] 61) :=
  AnyZ.keys_in Try.keys30 Fence.wide 5 trivial rfl mb W

set_option maxHeartbeats 1000000 in
/-- **slices.Sorted[string] AT WHAT maps.Keys[map[string]mailbag/disk.file,string,mailbag/disk.file] HANDED BACK FOR A MAP THAT IS NOT nil** ('w': the world AHEAD of maps.Keys' call): A NEW SLICE THAT HOLDS THE MAP's KEYS, SORTED; nil just where it has none; nothing that lay before has turned. -/
theorem Try.slices_Sorted_keys_29_30 {H : Type} (b nn : Nat) (D0 : DataW H) (R : Value → Option (DataW H × List MemPlace)) (w : World) (hown : w.ownsMap Try.prog 9 R b nn D0) (hmax : Maps.size D0 ≤ maxLen) (hbytes : Maps.size D0 * 16 ≤ 140737488355328) :
    CallsIn Fence.wide 5 Try.prog 29 #[.func (.func 39) #[] #[.pointer (some ⟨w.heap.size, 0, none⟩)]] (w.alloc (.cells #[.map (some b)] 61)) fun e w' => ∃ (v : Value) (ss : List (List UInt8)), e = .returned v ∧ ss.Perm (strKeys D0) ∧
      w'.ownsRow (w.alloc (.cells #[.map (some b)] 61)).heap.size 9 1 v ss.length ((ss.mergeSort (fun x y => decide (x ≤ y))).map encStr) ∧ (v = .slice none 0 0 ↔ ss = []) ∧ Below (w.alloc (.cells #[.map (some b)] 61)).heap.size (w.alloc (.cells #[.map (some b)] 61)) w' := by
  have hbl := hown.lt
  have hseq : SeqGives Fence.wide 2 Try.prog 39 #[.pointer (some ⟨w.heap.size, 0, none⟩)] encStr (fun ss => ss.Perm (strKeys D0)) (Maps.size D0) (w.alloc (.cells #[.map (some b)] 61)) :=
    AnyZ.keys_gives (ρ := Try.keys30_ren) { Try.keys30 with } Fence.wide _ trivial rfl (by omega) w.heap.size b nn D0 _ (by simp) (by simp) (by
      obtain ⟨es, clock, hb, Ft, hs, hD⟩ := hown
      exact ⟨es, clock, (Below.heap_alloc _ _ b hbl).trans hb, Ft, hs, hD⟩)
  exact AnyZ.sorted_in Try.sorted29 Fence.wide 5 trivial trivial trivial trivial rfl (by omega) (Try.sorts29 _) (enters_of Try.func38 (by kernel_rfl) rfl) 39 #[.pointer (some ⟨w.heap.size, 0, none⟩)] trivial (enters_of Try.func39 (by kernel_rfl) rfl) _ _ hmax hbytes _ hseq

set_option maxHeartbeats 1000000 in
/-- **.. AND FOR THE nil MAP: nil.** -/
theorem Try.slices_Sorted_keys_nil_29_30 (w : World) :
    CallsIn Fence.wide 5 Try.prog 29 #[.func (.func 39) #[] #[.pointer (some ⟨w.heap.size, 0, none⟩)]] (w.alloc (.cells #[.map none] 61)) fun e w' => ∃ (v : Value) (ss : List (List UInt8)), e = .returned v ∧ ss = [] ∧
      w'.ownsRow (w.alloc (.cells #[.map none] 61)).heap.size 9 1 v ss.length ((ss.mergeSort (fun x y => decide (x ≤ y))).map encStr) ∧ (v = .slice none 0 0 ↔ ss = []) ∧ Below (w.alloc (.cells #[.map none] 61)).heap.size (w.alloc (.cells #[.map none] 61)) w' := by
  have hseq : SeqGives Fence.wide 2 Try.prog 39 #[.pointer (some ⟨w.heap.size, 0, none⟩)] encStr (fun ss : List (List UInt8) => ss = []) 0 (w.alloc (.cells #[.map none] 61)) :=
    AnyZ.keys_gives_nil (ρ := Try.keys30_ren) { Try.keys30 with } Fence.wide _ trivial rfl w.heap.size _ (by simp) (by simp)
  exact AnyZ.sorted_in Try.sorted29 Fence.wide 5 trivial trivial trivial trivial rfl (by omega) (Try.sorts29 _) (enters_of Try.func38 (by kernel_rfl) rfl) 39 #[.pointer (some ⟨w.heap.size, 0, none⟩)] trivial (enters_of Try.func39 (by kernel_rfl) rfl) _ 0 (Nat.zero_le _) (by omega) _ hseq

end Go.Proofs.Ytfiigdgkgelbkaa
