/-
  slices.Insert of one element, at a leaf's items and at a tree's leaves.
-/
import Derived.Test.YtkgggioldpnfaaaChecked
import Derived.Test.YtkgggioldpnfaaaLaw
import Derived.Test.YtkgggioldpnfaaaCl
import Derived.Lib.Overlaps
import Derived.BigQuiet
namespace Go.Proofs.Ytkgggioldpnfaaa
open Go.RowKit Go.Mb

theorem Try.info125 : (Try.prog.info? 125).map (fun i => (i.zero, i.size, i.bytes)) = some (some (.slice none 0 0), 1, 24) := by kernel_rfl

theorem ovI (g g2 q lb cb : Nat) (c2 : Array Value) (cur : Array Value) (w : World) (hg : Blk w g 124 cur) (hcs : cur.size ≠ 0) (h2 : Blk w g2 124 c2) (hne : g2 ≠ g) :
    (callFunc 83 #[.slice (some ⟨g2, 0, none⟩) 1 1, .slice (some ⟨g, q, none⟩) lb cb]).run Try.prog w = .ok (.value (.bool false)) w := by
  obtain ⟨i0, hi0, hz0, hz1, hz2⟩ := info_parts Try.info124
  rw [run_callFunc_extern Try.func83 (by kernel_rfl) (by kernel_rfl) (by kernel_rfl) (e := Extern.SlicesOverlaps.overlaps #[125, 125] #[4]) (by kernel_rfl),
    Lib.run_overlaps_apart w 125 4 124 Try.underlying125 2 (fun w => by simp [sizeOf, typeInfo, hi0, hz1]) ⟨g2, 0, none⟩ ⟨g, q, none⟩ 1 1 lb cb hne 124 124 c2.size cur.size
      (by unfold Blk at h2; simp [World.shape?, h2]) (by unfold Blk at hg; simp [World.shape?, hg]) hcs (h2.frozen 0) (h2.frozen _)]
  rfl

set_option maxHeartbeats 1000000 in
set_option maxRecDepth 100000 in
theorem insI_shift (g g2 n cap i : Nat) (cur : List Value) (nw : List Value) (w : World) (hg : Blk w g 124 cur.toArray) (hcs : cur.length = cap * 2) (hn : n + 1 ≤ cap) (_hcm : cap ≤ maxLen)
    (h2 : Blk w g2 124 nw.toArray) (hnw : nw.length = 2) (hne : g2 ≠ g) (hi : i < n) (hn6 : n ≤ 1000000) (h1c : ∀ v ∈ cur.take (n * 2), v.oneCell' = true) (h1n : ∀ v ∈ nw, v.oneCell' = true) :
    Calls Try.prog 63 #[.slice (some ⟨g, 0, none⟩) n cap, .int .i64 i, .slice (some ⟨g2, 0, none⟩) 1 1] w (fun e w' => e = .returned (.slice (some ⟨g, 0, none⟩) (n + 1) cap) ∧
      w' = w.drew.setRow g (lay (lay cur ((i + 1) * 2) ((cur.take (n * 2)).drop (i * 2))) (i * 2) nw).toArray) := by
  obtain ⟨i0, hi0, hz0, hz1, hz2⟩ := info_parts Try.info124
  unfold maxLen at _hcm
  have hov : ∀ W lb cb q, W.heap = w.heap → (callFunc 83 #[.slice (some ⟨g2, 0, none⟩) 1 1, .slice (some ⟨g, q, none⟩) lb cb]).run Try.prog W = .ok (.value (.bool false)) W := fun W lb cb q hW =>
    ovI g g2 q lb cb nw.toArray cur.toArray W (by unfold Blk at hg ⊢; rw [hW]; exact hg) (by simp; intro h; subst h; simp at hcs; omega) (by unfold Blk at h2 ⊢; rw [hW]; exact h2) hne
  have d1 : ((i : Int) == (n : Int)) = false := by simp; omega
  have d2 : ¬ (cap < n + 1) := by omega
  have d3 : ¬ (cap = i) := by omega
  have d4 : ¬ (cap = i + 1) := by omega
  have hseg : ((cur.take (n * 2)).drop (i * 2)).length = (n - i) * 2 := by simp; omega
  have hg' : w.drew.heap[g]? = some (.cells cur.toArray 124 (0, 0)) := hg
  have hcp1 : ∀ ty dc sc, (Builtin.copy_ #[125, 125] ty #[.slice (some ⟨g, (i + 1) * 2, none⟩) (n - i) dc, .slice (some ⟨g, i * 2, none⟩) (n + 1 - i) sc]).run Try.prog w.drew =
      .ok (goInt (Nat.min (n + 1 - i) (n - i))) (w.drew.setRow g (lay cur ((i + 1) * 2) ((cur.take (n * 2)).drop (i * 2))).toArray) := fun ty dc sc => by
    have := run_copy_rowN (P := Try.prog) w.drew 125 125 ty 124 i0 2 g ((i + 1) * 2) (n - i) dc ⟨g, i * 2, none⟩ (n + 1 - i) sc cur.toArray 124 ((cur.take (n * 2)).drop (i * 2)) Try.underlying125 hi0 hz1 hg'
      (by rw [hseg]; simp only [Nat.min_def]; split <;> omega) (fun j v hj => by
        rw [Addr.add_lit, (show Blk w.drew g 124 cur.toArray from hg).cell, getElem?_toArray]
        rw [List.getElem?_drop, List.getElem?_take] at hj
        split at hj
        · exact hj
        · cases hj) (by rw [hseg]; simp; omega) (fun v hv => h1c v (List.mem_of_mem_drop hv))
    simpa [lay] using this
  have hl1 : (lay cur ((i + 1) * 2) ((cur.take (n * 2)).drop (i * 2))).length = cap * 2 := by rw [lay_length _ _ _ (by rw [hseg]; omega)]; exact hcs
  obtain ⟨C1, hC1⟩ : ∃ C, C = lay cur ((i + 1) * 2) ((cur.take (n * 2)).drop (i * 2)) := ⟨_, rfl⟩
  rw [← hC1] at hcp1 hl1
  obtain ⟨W1, hW1⟩ : ∃ W, W = w.drew.setRow g C1.toArray := ⟨_, rfl⟩
  have hgW : W1.heap[g]? = some (.cells C1.toArray 124 (0, 0)) := by rw [hW1]; exact setRow_heap _ g _ _ 124 _ hg'
  have h2W : Blk W1 g2 124 nw.toArray := by unfold Blk; rw [hW1, setRow_other _ _ _ _ hne]; exact h2
  have hcp2 : ∀ ty dc, (Builtin.copy_ #[125, 125] ty #[.slice (some ⟨g, i * 2, none⟩) (n + 1 - i) dc, .slice (some ⟨g2, 0, none⟩) 1 1]).run Try.prog W1 =
      .ok (goInt (Nat.min 1 (n + 1 - i))) (W1.setRow g (lay C1 (i * 2) nw).toArray) := fun ty dc => by
    have := run_copy_rowN (P := Try.prog) W1 125 125 ty 124 i0 2 g (i * 2) (n + 1 - i) dc ⟨g2, 0, none⟩ 1 1 C1.toArray 124 nw Try.underlying125 hi0 hz1 hgW
      (by rw [hnw]; simp only [Nat.min_def]; split <;> omega) (fun j v hj => by
        rw [Addr.add_lit, Nat.zero_add, h2W.cell, getElem?_toArray]
        exact hj) (by rw [hnw]; simp; omega) h1n
    simpa [lay] using this
  rw [← hW1] at hcp1
  have hfin : W1.setRow g (lay C1 (i * 2) nw).toArray = w.drew.setRow g (lay C1 (i * 2) nw).toArray := by rw [hW1, setRow_setRow]
  rw [← hC1, ← hfin]
  clear hg hcs h2 hgW h2W hl1 hseg hg' hfin h1c hC1 hW1
  have hw1 : IntKind.i64.wrap ((i : Int) + 1) = (i : Int) + 1 := by rw [IntKind.wrap_i64]; omega
  have hb1 : (0 : Int) ≤ (i : Int) + 1 := by omega
  have hb2 : (i : Int) + 1 ≤ (n : Int) + 1 := by omega
  have htn : ((i : Int) + 1).toNat = i + 1 := by omega
  have hb3 : (i : Int) ≤ (n : Int) + 1 := by omega
  go_enter Try.func63, Try.ntmps63
  go_wp2_with fail
  go_region_law (refine step_copy_run rfl _ _ 125 125 rfl _ _ (by simp [Act.eval, Act.put]) (by simp [Act.eval, Act.put]) (hcp1 _ _ _) ?_)
  go_wp2_with (refine wpList_copy_run _ rfl _ _ 125 125 rfl _ _ rfl rfl (hcp2 _ _) ?_)
  go_ret
  first | exact ⟨rfl, rfl⟩ | exact ⟨rfl, by simp only [Nat.mul_one]⟩

set_option maxHeartbeats 1000000 in
set_option maxRecDepth 100000 in
theorem insI_end (base g g2 n cap : Nat) (xs : List Value) (nw : List Value) (w : World) (hown : w.ownsRow base 124 2 (.slice (some ⟨g, 0, none⟩) n cap) n xs) (hB : base ≤ w.heap.size)
    (h2 : Blk w g2 124 nw.toArray) (hnw : nw.length = 2) (hn6 : n ≤ 1000000) (h1n : ∀ v ∈ nw, v.oneCell' = true) :
    Calls Try.prog 63 #[.slice (some ⟨g, 0, none⟩) n cap, .int .i64 n, .slice (some ⟨g2, 0, none⟩) 1 1] w (Inserted base 124 2 g n n xs nw w) := by
  obtain ⟨i0, hi0, hz0, hz1, hz2⟩ := info_parts Try.info124
  have hx : xs.length = n * 2 := hown.1
  have hnc : n ≤ cap ∧ cap ≤ 9223372036854775807 := by
    rcases hown.2 with ⟨h, _⟩ | ⟨g', cap', cur, hv, _, _, h1, h2, _⟩
    · cases h
    · cases hv; unfold maxLen at h2; exact ⟨h1, by omega⟩
  obtain ⟨hnc, hcm⟩ := hnc
  have hnews : ∀ j u, nw[j]? = some u → w.cell? ((⟨g2, 0, none⟩ : Addr).add j) = some u := fun j u hj => by
    rw [Addr.add_lit, Nat.zero_add, h2.cell, getElem?_toArray]; exact hj
  have HN := Lib.hid hnews
  have HO := Lib.hid hown
  have HX := Lib.hid hx
  clear hnews h2 hown hx
  go_enter Try.func63, Try.ntmps63
  go_wp2_with (at_builtin; refine wpList_append_at _ rfl _ _ 125 rfl base 124 i0 _ 2 40 Try.underlying125 hi0 hz0 hz1 hz2 rfl (by decide) (.slice (some ⟨g, 0, none⟩) n cap) n xs rfl HO.out ⟨g2, 0, none⟩ 1 1 nw rfl (by rw [hnw]) HN.out h1n (by unfold maxLen; omega) (by omega) hB ?_; intro v' w' h3 h4 h5)
  all_goals go_ret
  all_goals exact ⟨v', rfl, by rw [← HX.out, List.take_length, List.drop_length, List.append_nil]; exact h3, h4, h5⟩

set_option maxHeartbeats 2000000 in
set_option maxRecDepth 100000 in
theorem insI_grow (base g g2 n cap i : Nat) (cur : List Value) (nw : List Value) (w : World) (hg : Blk w g 124 cur.toArray) (hcs : cur.length = cap * 2) (hnc : n ≤ cap) (hn : cap < n + 1) (hcm : cap ≤ maxLen) (hB : base ≤ w.heap.size)
    (h2 : Blk w g2 124 nw.toArray) (hnw : nw.length = 2) (hi : i < n) (hn6 : n ≤ 1000000) (h1c : ∀ v ∈ cur.take (n * 2), v.oneCell' = true) (h1n : ∀ v ∈ nw, v.oneCell' = true) :
    Calls Try.prog 63 #[.slice (some ⟨g, 0, none⟩) n cap, .int .i64 i, .slice (some ⟨g2, 0, none⟩) 1 1] w (Inserted base 124 2 g n i (cur.take (n * 2)) nw w) := by
  obtain ⟨i0, hi0, hz0, hz1, hz2⟩ := info_parts Try.info124
  unfold maxLen at hcm
  obtain rfl : cap = n := by omega
  have hcur : cur.take (cap * 2) = cur := List.take_of_length_le (by omega)
  rw [hcur] at h1c ⊢
  have hgs := hg.lt
  have h2s := h2.lt
  have hkk : (cap : Int) + 1 - (i : Int) = ((cap + 1 - i : Nat) : Int) := by omega
  have hik : i + (cap + 1 - i) = cap + 1 := by omega
  have hold : (Builtin.firstCells i0.size i (.slice (some ⟨g, 0, none⟩) i cap)).run Try.prog w.drew = .ok (cur.take (i * 2)).toArray w.drew := by
    rw [hz1]
    exact run_firstCells_some w.drew 2 i ⟨g, 0, none⟩ i cap (cur.take (i * 2)) (by rw [List.length_take]; omega) (fun j v hj => by
      rw [Addr.add_lit, Nat.zero_add, (show Blk w.drew g 124 cur.toArray from hg).cell, getElem?_toArray]
      rw [List.getElem?_take] at hj
      split at hj
      · exact hj
      · cases hj)
  obtain ⟨G, hG⟩ : ∃ G, G = grownCap w (cap + 1) cap 124 := ⟨_, rfl⟩
  have hGn : cap + 1 ≤ G := by rw [hG]; exact grownCap_ge w _ _ _
  have hG63 : G ≤ 9223372036854775807 := by
    have := grownCap_le_maxLen w (cap + 1) cap 124 (by unfold maxLen; omega)
    rw [← hG] at this
    unfold maxLen at this
    omega
  obtain ⟨z, hz⟩ : ∃ z, i0.zero = some z ∧ z.cells.size = 2 := ⟨_, hz0, rfl⟩
  obtain ⟨ROW, hROW⟩ : ∃ ROW : List Value, ROW = ((cur.take (i * 2)).toArray ++ Builtin.zeroCells z.cells (cap + 1 - i) ++ Builtin.zeroCells z.cells (G - (cap + 1))).toList := ⟨_, rfl⟩
  have hrz : ∀ ty, (Builtin.append_ #[125, 3] ty #[.slice (some ⟨g, 0, none⟩) i cap, .int .i64 ((cap : Int) + 1 - (i : Int))]).run Try.prog w =
      .ok (.slice (some ⟨w.heap.size, 0, none⟩) (cap + 1) G) (w.drew.alloc (.cells ROW.toArray 124)) := fun ty => by
    have h := Lib.run_append_grow_zeros w 125 3 ty 124 i0 z .i64 .i64 Try.underlying125 Try.underlying3 hi0 hz.1 (some ⟨g, 0, none⟩) i cap (cur.take (i * 2)) hold (cap + 1 - i) (by omega) (by omega) (by omega) (by omega) (by rw [hz2]; omega) (by rw [hz2, hik]; exact growslice_fits (by omega) (by omega))
    rw [hik, ← hG] at h
    rw [hkk, hROW, Array.toArray_toList]
    exact h
  have hRl : ROW.length = G * 2 := by
    rw [hROW]
    simp only [Array.toList_append, List.length_append, Array.length_toList, size_zeroCells, hz.2, List.length_take, hcs]
    omega
  have hRi : ROW.take (i * 2) = cur.take (i * 2) := by
    rw [hROW]
    simp only [Array.toList_append, List.append_assoc]
    exact List.take_left' (by rw [List.length_take]; omega)
  obtain ⟨N, hN⟩ : ∃ N, N = w.heap.size := ⟨_, rfl⟩
  have hgN : g ≠ N := by omega
  have h2N : g2 ≠ N := by omega
  have hcpA : ∀ (W : World), W.heap[N]? = some (.cells ROW.toArray 124 (0, 0)) → Blk W g2 124 nw.toArray → ∀ ty dc, (Builtin.copy_ #[125, 125] ty #[.slice (some ⟨N, i * 2, none⟩) (cap + 1 - i) dc, .slice (some ⟨g2, 0, none⟩) 1 1]).run Try.prog W =
      .ok (goInt (Nat.min 1 (cap + 1 - i))) (W.setRow N (lay ROW (i * 2) nw).toArray) := fun W hW hW2 ty dc => by
    have := run_copy_rowN (P := Try.prog) W 125 125 ty 124 i0 2 N (i * 2) (cap + 1 - i) dc ⟨g2, 0, none⟩ 1 1 ROW.toArray 124 nw Try.underlying125 hi0 hz1 hW
      (by rw [hnw]; simp only [Nat.min_def]; split <;> omega) (fun j v hj => by
        rw [Addr.add_lit, Nat.zero_add, hW2.cell, getElem?_toArray]
        exact hj) (by rw [hnw]; simp; omega) h1n
    simpa [lay] using this
  have hl1 : (lay ROW (i * 2) nw).length = G * 2 := by rw [lay_length _ _ _ (by rw [hnw, hRl]; omega)]; exact hRl
  obtain ⟨C1, hC1⟩ : ∃ C, C = lay ROW (i * 2) nw := ⟨_, rfl⟩
  rw [← hC1] at hcpA hl1
  have hseg : (cur.drop (i * 2)).length = (cap - i) * 2 := by simp; omega
  have hcpB : ∀ (W : World), W.heap[N]? = some (.cells C1.toArray 124 (0, 0)) → Blk W g 124 cur.toArray → ∀ ty dc sc, (Builtin.copy_ #[125, 125] ty #[.slice (some ⟨N, (i + 1) * 2, none⟩) (cap - i) dc, .slice (some ⟨g, i * 2, none⟩) (cap - i) sc]).run Try.prog W =
      .ok (goInt (Nat.min (cap - i) (cap - i))) (W.setRow N (lay C1 ((i + 1) * 2) (cur.drop (i * 2))).toArray) := fun W hW hW2 ty dc sc => by
    have := run_copy_rowN (P := Try.prog) W 125 125 ty 124 i0 2 N ((i + 1) * 2) (cap - i) dc ⟨g, i * 2, none⟩ (cap - i) sc C1.toArray 124 (cur.drop (i * 2)) Try.underlying125 hi0 hz1 hW
      (by rw [hseg]; simp only [Nat.min_def]; split <;> omega) (fun j v hj => by
        rw [Addr.add_lit, hW2.cell, getElem?_toArray]
        rwa [List.getElem?_drop] at hj) (by rw [hseg]; simp; omega) (fun v hv => h1c v (List.mem_of_mem_drop hv))
    simpa [lay] using this
  obtain ⟨C2, hC2⟩ : ∃ C, C = lay C1 ((i + 1) * 2) (cur.drop (i * 2)) := ⟨_, rfl⟩
  rw [← hC2] at hcpB
  obtain ⟨Wf, hWf⟩ : ∃ W, W = ((w.drew.alloc (.cells ROW.toArray 124)).setRow N C1.toArray).drew.setRow N C2.toArray := ⟨_, rfl⟩
  have hA : (w.drew.alloc (.cells ROW.toArray 124)).heap[N]? = some (.cells ROW.toArray 124 (0, 0)) := by rw [hN]; exact heap_alloc_new w.drew _
  have hB1 : ((w.drew.alloc (.cells ROW.toArray 124)).setRow N C1.toArray).heap[N]? = some (.cells C1.toArray 124 (0, 0)) := setRow_heap _ N _ _ _ _ hA
  have hB2 : Wf.heap[N]? = some (.cells C2.toArray 124 (0, 0)) := by rw [hWf]; exact setRow_heap _ N _ _ _ _ hB1
  have hA2 : Blk (w.drew.alloc (.cells ROW.toArray 124)) g2 124 nw.toArray := (Below.heap_alloc w.drew _ g2 h2s).trans h2
  have hBg : Blk ((w.drew.alloc (.cells ROW.toArray 124)).setRow N C1.toArray) g 124 cur.toArray := by
    unfold Blk
    rw [setRow_other _ _ _ _ hgN]
    exact (Below.heap_alloc w.drew _ g hgs).trans hg
  have hl2 : C2.length = G * 2 := by rw [hC2, lay_length _ _ _ (by rw [hseg, hl1]; omega)]; exact hl1
  have hC2t : C2.take ((cap + 1) * 2) = cur.take (i * 2) ++ nw ++ cur.drop (i * 2) := by
    have e1 : (i + 1) * 2 = i * 2 + nw.length := by rw [hnw, Nat.succ_mul]
    have e2 : (cap + 1) * 2 = (i + 1) * 2 + (cur.drop (i * 2)).length := by rw [hseg, ← Nat.add_mul]; congr 1; omega
    rw [hC2, e2, lay_take (by rw [hl1]; exact Nat.mul_le_mul_right _ (by omega)), e1, hC1, lay_take (by rw [hRl]; exact Nat.mul_le_mul_right _ (by omega)), hRi]
  have hf1 : Wf.ownsRow base 124 2 (.slice (some ⟨N, 0, none⟩) (cap + 1) G) (cap + 1) (cur.take (i * 2) ++ nw ++ cur.drop (i * 2)) := by
    refine ⟨by rw [← hC2t, List.length_take, hl2, Nat.min_eq_left (Nat.mul_le_mul_right _ hGn)], .inr ⟨N, G, C2.toArray, rfl, by omega, hB2, hGn, by unfold maxLen; omega, by simp [hl2], by simpa using hC2t⟩⟩
  have hf2 : w.grownBy Wf (some g) := by
    rw [hWf]
    refine ⟨rfl, rfl, rfl, by simp [World.setRow], fun k' hk _ => ?_⟩
    rw [setRow_other _ _ _ _ (by omega)]
    show ((w.drew.alloc (.cells ROW.toArray 124)).setRow N C1.toArray).heap[k']? = _
    rw [setRow_other _ _ _ _ (by omega)]
    exact Below.heap_alloc w.drew _ k' hk
  rw [hWf] at hf1 hf2
  rw [← hN] at hrz
  have HCW : Hid (∀ ty dc sc, (Builtin.copy_ #[125, 125] ty #[.slice (some ⟨N, (i + 1) * 2, none⟩) (cap - i) dc, .slice (some ⟨g, i * 2, none⟩) (cap - i) sc]).run Try.prog ((w.alloc (.cells ROW.toArray 124)).drew.setRow N C1.toArray).drew =
      .ok (goInt (Nat.min (cap - i) (cap - i))) (((w.alloc (.cells ROW.toArray 124)).drew.setRow N C1.toArray).drew.setRow N C2.toArray)) := fun ty dc sc => hcpB ((w.alloc (.cells ROW.toArray 124)).drew.setRow N C1.toArray).drew (by exact hB1) (by exact hBg) ty dc sc
  have HF1 := Lib.hid hf1
  have HF2 := Lib.hid hf2
  have HA := Lib.hid hA
  have HA2 := Lib.hid hA2
  have HNN := Lib.hid hN
  have d1 : ((i : Int) == (cap : Int)) = false := by simp; omega
  have d3 : ¬ (cap = i) := by omega
  have d5 : ¬ (G = i) := by omega
  have d6 : ¬ (G = i + 1) := by omega
  have hw1 : IntKind.i64.wrap ((i : Int) + 1) = (i : Int) + 1 := by rw [IntKind.wrap_i64]; omega
  have hb1 : (0 : Int) ≤ (i : Int) + 1 := by omega
  have hb2 : (i : Int) + 1 ≤ (cap : Int) + 1 := by omega
  have htn : ((i : Int) + 1).toNat = i + 1 := by omega
  have hb3 : (i : Int) ≤ (cap : Int) + 1 := by omega
  have hb4 : (i : Int) ≤ (cap : Int) := by omega
  clear hcpB hg hcs h2 hnw h1c h1n hcur hkk hik hold hG hROW hRl hRi hz hl1 hseg hC1 hC2 hWf hA hB1 hB2 hA2 hBg hl2 hC2t hf1 hf2 hgs h2s hN hz0 hz1 hz2 hi0
  go_enter Try.func63, Try.ntmps63
  go_wp2_with (first
    | (at_builtin; refine Lib.wpList_append_run _ rfl _ _ _ _ rfl _ _ rfl rfl _ _ (hrz _) ?_)
    | (refine wpList_copy_run _ rfl _ _ 125 125 rfl _ _ rfl rfl (hcpA _ (by exact HA.out) (by exact HA2.out) _ _) ?_))
  go_region_law (refine step_copy_run rfl _ _ 125 125 rfl (.slice (some ⟨N, (i + 1) * 2, none⟩) (cap - i) (G - (i + 1))) (.slice (some ⟨g, i * 2, none⟩) (cap - i) (cap - i)) (by simp [Act.eval, Act.put]) (by simp [Act.eval, Act.put]) (HCW.out _ _ _) ?_)
  go_wp2_with fail
  go_ret
  exact ⟨_, rfl, HF1.out, HF2.out, .inr (by rw [← HNN.out]; rfl)⟩

theorem insI_any (base g g2 n cap i : Nat) (xs : List Value) (nw : List Value) (w : World) (hown : w.ownsRow base 124 2 (.slice (some ⟨g, 0, none⟩) n cap) n xs) (hB : base ≤ w.heap.size)
    (h2 : Blk w g2 124 nw.toArray) (hnw : nw.length = 2) (hne : g2 ≠ g) (hi : i ≤ n) (hn6 : n ≤ 1000000) (h1c : ∀ v ∈ xs, v.oneCell' = true) (h1n : ∀ v ∈ nw, v.oneCell' = true) :
    Calls Try.prog 63 #[.slice (some ⟨g, 0, none⟩) n cap, .int .i64 i, .slice (some ⟨g2, 0, none⟩) 1 1] w (Inserted base 124 2 g n i xs nw w) := by
  rcases Nat.eq_or_lt_of_le hi with rfl | hlt
  · exact insI_end base g g2 i cap xs nw w hown hB h2 hnw hn6 h1n
  · rcases hown.2 with ⟨h, _⟩ | ⟨g', cap', cur, hv, hb, hg, hnc, hcm, hcs, htk⟩
    · cases h
    · cases hv
      have hcl : cur.toList.length = cap * 2 := by simpa using hcs
      have hgb : Blk w g 124 cur.toList.toArray := by simpa [Blk] using hg
      rw [← htk] at h1c
      by_cases hr : n + 1 ≤ cap
      · refine (insI_shift g g2 n cap i cur.toList nw w hgb hcl hr hcm h2 hnw hne hlt hn6 h1c h1n).mono ?_
        rintro e w' ⟨rfl, rfl⟩
        refine ⟨_, rfl, ⟨?_, .inr ⟨g, cap, _, rfl, hb, setRow_heap _ g _ _ _ _ hg, hr, hcm, ?_, ?_⟩⟩, ⟨rfl, rfl, rfl, by simp [World.setRow], fun q _ hq => setRow_other w.drew g q _ (fun e => hq (by rw [e]))⟩, .inl rfl⟩
        · rw [← htk, List.length_append, List.length_append, List.length_take, List.length_drop, List.length_take, hcl, hnw]; omega
        · have hs : ((cur.toList.take (n * 2)).drop (i * 2)).length = (n - i) * 2 := by rw [List.length_drop, List.length_take, hcl]; omega
          simp only [List.size_toArray]
          rw [lay_length, lay_length, hcl]
          · rw [hs, hcl]; omega
          · rw [lay_length, hnw, hcl]
            · omega
            · rw [hs, hcl]; omega
        · rw [← htk]
          exact ins_lay hcl hr (Nat.le_of_lt hlt) hnw
      · have := insI_grow base g g2 n cap i cur.toList nw w hgb hcl hnc (by omega) hcm hB h2 hnw hlt hn6 h1c h1n
        rw [htk] at this
        exact this

theorem ovL (g g2 q lb cb : Nat) (c2 : Array Value) (cur : Array Value) (w : World) (hg : Blk w g 125 cur) (hcs : cur.size ≠ 0) (h2 : Blk w g2 125 c2) (hne : g2 ≠ g) :
    (callFunc 86 #[.slice (some ⟨g2, 0, none⟩) 1 1, .slice (some ⟨g, q, none⟩) lb cb]).run Try.prog w = .ok (.value (.bool false)) w := by
  obtain ⟨i0, hi0, hz0, hz1, hz2⟩ := info_parts Try.info125
  rw [run_callFunc_extern Try.func86 (by kernel_rfl) (by kernel_rfl) (by kernel_rfl) (e := Extern.SlicesOverlaps.overlaps #[83, 83] #[4]) (by kernel_rfl),
    Lib.run_overlaps_apart w 83 4 125 Try.underlying83 1 (fun w => by simp [sizeOf, typeInfo, hi0, hz1]) ⟨g2, 0, none⟩ ⟨g, q, none⟩ 1 1 lb cb hne 125 125 c2.size cur.size
      (by unfold Blk at h2; simp [World.shape?, h2]) (by unfold Blk at hg; simp [World.shape?, hg]) hcs (h2.frozen 0) (h2.frozen _)]
  rfl

set_option maxHeartbeats 1000000 in
set_option maxRecDepth 100000 in
theorem insL_shift (g g2 n cap i : Nat) (cur : List Value) (nw : List Value) (w : World) (hg : Blk w g 125 cur.toArray) (hcs : cur.length = cap * 1) (hn : n + 1 ≤ cap) (_hcm : cap ≤ maxLen)
    (h2 : Blk w g2 125 nw.toArray) (hnw : nw.length = 1) (hne : g2 ≠ g) (hi : i < n) (hn6 : n ≤ 1000000) (h1c : ∀ v ∈ cur.take (n * 1), v.oneCell' = true) (h1n : ∀ v ∈ nw, v.oneCell' = true) :
    Calls Try.prog 65 #[.slice (some ⟨g, 0, none⟩) n cap, .int .i64 i, .slice (some ⟨g2, 0, none⟩) 1 1] w (fun e w' => e = .returned (.slice (some ⟨g, 0, none⟩) (n + 1) cap) ∧
      w' = w.drew.setRow g (lay (lay cur ((i + 1) * 1) ((cur.take (n * 1)).drop (i * 1))) (i * 1) nw).toArray) := by
  obtain ⟨i0, hi0, hz0, hz1, hz2⟩ := info_parts Try.info125
  unfold maxLen at _hcm
  have hov : ∀ W lb cb q, W.heap = w.heap → (callFunc 86 #[.slice (some ⟨g2, 0, none⟩) 1 1, .slice (some ⟨g, q, none⟩) lb cb]).run Try.prog W = .ok (.value (.bool false)) W := fun W lb cb q hW =>
    ovL g g2 q lb cb nw.toArray cur.toArray W (by unfold Blk at hg ⊢; rw [hW]; exact hg) (by simp; intro h; subst h; simp at hcs; omega) (by unfold Blk at h2 ⊢; rw [hW]; exact h2) hne
  have d1 : ((i : Int) == (n : Int)) = false := by simp; omega
  have d2 : ¬ (cap < n + 1) := by omega
  have d3 : ¬ (cap = i) := by omega
  have d4 : ¬ (cap = i + 1) := by omega
  have hseg : ((cur.take (n * 1)).drop (i * 1)).length = (n - i) * 1 := by simp; omega
  have hg' : w.drew.heap[g]? = some (.cells cur.toArray 125 (0, 0)) := hg
  have hcp1 : ∀ ty dc sc, (Builtin.copy_ #[83, 83] ty #[.slice (some ⟨g, i + 1, none⟩) (n - i) dc, .slice (some ⟨g, i, none⟩) (n + 1 - i) sc]).run Try.prog w.drew =
      .ok (goInt (Nat.min (n + 1 - i) (n - i))) (w.drew.setRow g (lay cur ((i + 1) * 1) ((cur.take (n * 1)).drop (i * 1))).toArray) := fun ty dc sc => by
    have := run_copy_rowN (P := Try.prog) w.drew 83 83 ty 125 i0 1 g ((i + 1) * 1) (n - i) dc ⟨g, i * 1, none⟩ (n + 1 - i) sc cur.toArray 125 ((cur.take (n * 1)).drop (i * 1)) Try.underlying83 hi0 hz1 hg'
      (by rw [hseg]; simp only [Nat.min_def]; split <;> omega) (fun j v hj => by
        rw [Addr.add_lit, (show Blk w.drew g 125 cur.toArray from hg).cell, getElem?_toArray]
        rw [List.getElem?_drop, List.getElem?_take] at hj
        split at hj
        · exact hj
        · cases hj) (by rw [hseg]; simp; omega) (fun v hv => h1c v (List.mem_of_mem_drop hv))
    simpa [lay] using this
  have hl1 : (lay cur ((i + 1) * 1) ((cur.take (n * 1)).drop (i * 1))).length = cap * 1 := by rw [lay_length _ _ _ (by rw [hseg]; omega)]; exact hcs
  obtain ⟨C1, hC1⟩ : ∃ C, C = lay cur ((i + 1) * 1) ((cur.take (n * 1)).drop (i * 1)) := ⟨_, rfl⟩
  rw [← hC1] at hcp1 hl1
  obtain ⟨W1, hW1⟩ : ∃ W, W = w.drew.setRow g C1.toArray := ⟨_, rfl⟩
  have hgW : W1.heap[g]? = some (.cells C1.toArray 125 (0, 0)) := by rw [hW1]; exact setRow_heap _ g _ _ 125 _ hg'
  have h2W : Blk W1 g2 125 nw.toArray := by unfold Blk; rw [hW1, setRow_other _ _ _ _ hne]; exact h2
  have hcp2 : ∀ ty dc, (Builtin.copy_ #[83, 83] ty #[.slice (some ⟨g, i, none⟩) (n + 1 - i) dc, .slice (some ⟨g2, 0, none⟩) 1 1]).run Try.prog W1 =
      .ok (goInt (Nat.min 1 (n + 1 - i))) (W1.setRow g (lay C1 (i * 1) nw).toArray) := fun ty dc => by
    have := run_copy_rowN (P := Try.prog) W1 83 83 ty 125 i0 1 g (i * 1) (n + 1 - i) dc ⟨g2, 0, none⟩ 1 1 C1.toArray 125 nw Try.underlying83 hi0 hz1 hgW
      (by rw [hnw]; simp only [Nat.min_def]; split <;> omega) (fun j v hj => by
        rw [Addr.add_lit, Nat.zero_add, h2W.cell, getElem?_toArray]
        exact hj) (by rw [hnw]; simp; omega) h1n
    simpa [lay] using this
  rw [← hW1] at hcp1
  have hfin : W1.setRow g (lay C1 (i * 1) nw).toArray = w.drew.setRow g (lay C1 (i * 1) nw).toArray := by rw [hW1, setRow_setRow]
  rw [← hC1, ← hfin]
  clear hg hcs h2 hgW h2W hl1 hseg hg' hfin h1c hC1 hW1
  have hw1 : IntKind.i64.wrap ((i : Int) + 1) = (i : Int) + 1 := by rw [IntKind.wrap_i64]; omega
  have hb1 : (0 : Int) ≤ (i : Int) + 1 := by omega
  have hb2 : (i : Int) + 1 ≤ (n : Int) + 1 := by omega
  have htn : ((i : Int) + 1).toNat = i + 1 := by omega
  have hb3 : (i : Int) ≤ (n : Int) + 1 := by omega
  go_enter Try.func65, Try.ntmps65
  go_wp2_with fail
  go_region_law (refine step_copy_run rfl _ _ 83 83 rfl _ _ (by simp [Act.eval, Act.put]) (by simp [Act.eval, Act.put]) (hcp1 _ _ _) ?_)
  go_wp2_with (refine wpList_copy_run _ rfl _ _ 83 83 rfl _ _ rfl rfl (hcp2 _ _) ?_)
  go_ret
  first | exact ⟨rfl, rfl⟩ | exact ⟨rfl, by simp only [Nat.mul_one]⟩

set_option maxHeartbeats 1000000 in
set_option maxRecDepth 100000 in
theorem insL_end (base g g2 n cap : Nat) (xs : List Value) (nw : List Value) (w : World) (hown : w.ownsRow base 125 1 (.slice (some ⟨g, 0, none⟩) n cap) n xs) (hB : base ≤ w.heap.size)
    (h2 : Blk w g2 125 nw.toArray) (hnw : nw.length = 1) (hn6 : n ≤ 1000000) (h1n : ∀ v ∈ nw, v.oneCell' = true) :
    Calls Try.prog 65 #[.slice (some ⟨g, 0, none⟩) n cap, .int .i64 n, .slice (some ⟨g2, 0, none⟩) 1 1] w (Inserted base 125 1 g n n xs nw w) := by
  obtain ⟨i0, hi0, hz0, hz1, hz2⟩ := info_parts Try.info125
  have hx : xs.length = n * 1 := hown.1
  have hnc : n ≤ cap ∧ cap ≤ 9223372036854775807 := by
    rcases hown.2 with ⟨h, _⟩ | ⟨g', cap', cur, hv, _, _, h1, h2, _⟩
    · cases h
    · cases hv; unfold maxLen at h2; exact ⟨h1, by omega⟩
  obtain ⟨hnc, hcm⟩ := hnc
  have hnews : ∀ j u, nw[j]? = some u → w.cell? ((⟨g2, 0, none⟩ : Addr).add j) = some u := fun j u hj => by
    rw [Addr.add_lit, Nat.zero_add, h2.cell, getElem?_toArray]; exact hj
  have HN := Lib.hid hnews
  have HO := Lib.hid hown
  have HX := Lib.hid hx
  clear hnews h2 hown hx
  go_enter Try.func65, Try.ntmps65
  go_wp2_with (at_builtin; refine wpList_append_at _ rfl _ _ 83 rfl base 125 i0 _ 1 24 Try.underlying83 hi0 hz0 hz1 hz2 rfl (by decide) (.slice (some ⟨g, 0, none⟩) n cap) n xs rfl HO.out ⟨g2, 0, none⟩ 1 1 nw rfl (by rw [hnw]) HN.out h1n (by unfold maxLen; omega) (by omega) hB ?_; intro v' w' h3 h4 h5)
  all_goals go_ret
  all_goals exact ⟨v', rfl, by rw [← HX.out, List.take_length, List.drop_length, List.append_nil]; exact h3, h4, h5⟩

set_option maxHeartbeats 2000000 in
set_option maxRecDepth 100000 in
theorem insL_grow (base g g2 n cap i : Nat) (cur : List Value) (nw : List Value) (w : World) (hg : Blk w g 125 cur.toArray) (hcs : cur.length = cap * 1) (hnc : n ≤ cap) (hn : cap < n + 1) (hcm : cap ≤ maxLen) (hB : base ≤ w.heap.size)
    (h2 : Blk w g2 125 nw.toArray) (hnw : nw.length = 1) (hi : i < n) (hn6 : n ≤ 1000000) (h1c : ∀ v ∈ cur.take (n * 1), v.oneCell' = true) (h1n : ∀ v ∈ nw, v.oneCell' = true) :
    Calls Try.prog 65 #[.slice (some ⟨g, 0, none⟩) n cap, .int .i64 i, .slice (some ⟨g2, 0, none⟩) 1 1] w (Inserted base 125 1 g n i (cur.take (n * 1)) nw w) := by
  obtain ⟨i0, hi0, hz0, hz1, hz2⟩ := info_parts Try.info125
  unfold maxLen at hcm
  obtain rfl : cap = n := by omega
  have hcur : cur.take (cap * 1) = cur := List.take_of_length_le (by omega)
  rw [hcur] at h1c ⊢
  have hgs := hg.lt
  have h2s := h2.lt
  have hkk : (cap : Int) + 1 - (i : Int) = ((cap + 1 - i : Nat) : Int) := by omega
  have hik : i + (cap + 1 - i) = cap + 1 := by omega
  have hold : (Builtin.firstCells i0.size i (.slice (some ⟨g, 0, none⟩) i cap)).run Try.prog w.drew = .ok (cur.take (i * 1)).toArray w.drew := by
    rw [hz1]
    exact run_firstCells_some w.drew 1 i ⟨g, 0, none⟩ i cap (cur.take (i * 1)) (by rw [List.length_take]; omega) (fun j v hj => by
      rw [Addr.add_lit, Nat.zero_add, (show Blk w.drew g 125 cur.toArray from hg).cell, getElem?_toArray]
      rw [List.getElem?_take] at hj
      split at hj
      · exact hj
      · cases hj)
  obtain ⟨G, hG⟩ : ∃ G, G = grownCap w (cap + 1) cap 125 := ⟨_, rfl⟩
  have hGn : cap + 1 ≤ G := by rw [hG]; exact grownCap_ge w _ _ _
  have hG63 : G ≤ 9223372036854775807 := by
    have := grownCap_le_maxLen w (cap + 1) cap 125 (by unfold maxLen; omega)
    rw [← hG] at this
    unfold maxLen at this
    omega
  obtain ⟨z, hz⟩ : ∃ z, i0.zero = some z ∧ z.cells.size = 1 := ⟨_, hz0, rfl⟩
  obtain ⟨ROW, hROW⟩ : ∃ ROW : List Value, ROW = ((cur.take (i * 1)).toArray ++ Builtin.zeroCells z.cells (cap + 1 - i) ++ Builtin.zeroCells z.cells (G - (cap + 1))).toList := ⟨_, rfl⟩
  have hrz : ∀ ty, (Builtin.append_ #[83, 3] ty #[.slice (some ⟨g, 0, none⟩) i cap, .int .i64 ((cap : Int) + 1 - (i : Int))]).run Try.prog w =
      .ok (.slice (some ⟨w.heap.size, 0, none⟩) (cap + 1) G) (w.drew.alloc (.cells ROW.toArray 125)) := fun ty => by
    have h := Lib.run_append_grow_zeros w 83 3 ty 125 i0 z .i64 .i64 Try.underlying83 Try.underlying3 hi0 hz.1 (some ⟨g, 0, none⟩) i cap (cur.take (i * 1)) hold (cap + 1 - i) (by omega) (by omega) (by omega) (by omega) (by rw [hz2]; omega) (by rw [hz2, hik]; exact growslice_fits (by omega) (by omega))
    rw [hik, ← hG] at h
    rw [hkk, hROW, Array.toArray_toList]
    exact h
  have hRl : ROW.length = G * 1 := by
    rw [hROW]
    simp only [Array.toList_append, List.length_append, Array.length_toList, size_zeroCells, hz.2, List.length_take, hcs]
    omega
  have hRi : ROW.take (i * 1) = cur.take (i * 1) := by
    rw [hROW]
    simp only [Array.toList_append, List.append_assoc]
    exact List.take_left' (by rw [List.length_take]; omega)
  obtain ⟨N, hN⟩ : ∃ N, N = w.heap.size := ⟨_, rfl⟩
  have hgN : g ≠ N := by omega
  have h2N : g2 ≠ N := by omega
  have hcpA : ∀ (W : World), W.heap[N]? = some (.cells ROW.toArray 125 (0, 0)) → Blk W g2 125 nw.toArray → ∀ ty dc, (Builtin.copy_ #[83, 83] ty #[.slice (some ⟨N, i, none⟩) (cap + 1 - i) dc, .slice (some ⟨g2, 0, none⟩) 1 1]).run Try.prog W =
      .ok (goInt (Nat.min 1 (cap + 1 - i))) (W.setRow N (lay ROW (i * 1) nw).toArray) := fun W hW hW2 ty dc => by
    have := run_copy_rowN (P := Try.prog) W 83 83 ty 125 i0 1 N (i * 1) (cap + 1 - i) dc ⟨g2, 0, none⟩ 1 1 ROW.toArray 125 nw Try.underlying83 hi0 hz1 hW
      (by rw [hnw]; simp only [Nat.min_def]; split <;> omega) (fun j v hj => by
        rw [Addr.add_lit, Nat.zero_add, hW2.cell, getElem?_toArray]
        exact hj) (by rw [hnw]; simp; omega) h1n
    simpa [lay] using this
  have hl1 : (lay ROW (i * 1) nw).length = G * 1 := by rw [lay_length _ _ _ (by rw [hnw, hRl]; omega)]; exact hRl
  obtain ⟨C1, hC1⟩ : ∃ C, C = lay ROW (i * 1) nw := ⟨_, rfl⟩
  rw [← hC1] at hcpA hl1
  have hseg : (cur.drop (i * 1)).length = (cap - i) * 1 := by simp; omega
  have hcpB : ∀ (W : World), W.heap[N]? = some (.cells C1.toArray 125 (0, 0)) → Blk W g 125 cur.toArray → ∀ ty dc sc, (Builtin.copy_ #[83, 83] ty #[.slice (some ⟨N, i + 1, none⟩) (cap - i) dc, .slice (some ⟨g, i, none⟩) (cap - i) sc]).run Try.prog W =
      .ok (goInt (Nat.min (cap - i) (cap - i))) (W.setRow N (lay C1 ((i + 1) * 1) (cur.drop (i * 1))).toArray) := fun W hW hW2 ty dc sc => by
    have := run_copy_rowN (P := Try.prog) W 83 83 ty 125 i0 1 N ((i + 1) * 1) (cap - i) dc ⟨g, i * 1, none⟩ (cap - i) sc C1.toArray 125 (cur.drop (i * 1)) Try.underlying83 hi0 hz1 hW
      (by rw [hseg]; simp only [Nat.min_def]; split <;> omega) (fun j v hj => by
        rw [Addr.add_lit, hW2.cell, getElem?_toArray]
        rwa [List.getElem?_drop] at hj) (by rw [hseg]; simp; omega) (fun v hv => h1c v (List.mem_of_mem_drop hv))
    simpa [lay] using this
  obtain ⟨C2, hC2⟩ : ∃ C, C = lay C1 ((i + 1) * 1) (cur.drop (i * 1)) := ⟨_, rfl⟩
  rw [← hC2] at hcpB
  obtain ⟨Wf, hWf⟩ : ∃ W, W = ((w.drew.alloc (.cells ROW.toArray 125)).setRow N C1.toArray).drew.setRow N C2.toArray := ⟨_, rfl⟩
  have hA : (w.drew.alloc (.cells ROW.toArray 125)).heap[N]? = some (.cells ROW.toArray 125 (0, 0)) := by rw [hN]; exact heap_alloc_new w.drew _
  have hB1 : ((w.drew.alloc (.cells ROW.toArray 125)).setRow N C1.toArray).heap[N]? = some (.cells C1.toArray 125 (0, 0)) := setRow_heap _ N _ _ _ _ hA
  have hB2 : Wf.heap[N]? = some (.cells C2.toArray 125 (0, 0)) := by rw [hWf]; exact setRow_heap _ N _ _ _ _ hB1
  have hA2 : Blk (w.drew.alloc (.cells ROW.toArray 125)) g2 125 nw.toArray := (Below.heap_alloc w.drew _ g2 h2s).trans h2
  have hBg : Blk ((w.drew.alloc (.cells ROW.toArray 125)).setRow N C1.toArray) g 125 cur.toArray := by
    unfold Blk
    rw [setRow_other _ _ _ _ hgN]
    exact (Below.heap_alloc w.drew _ g hgs).trans hg
  have hl2 : C2.length = G * 1 := by rw [hC2, lay_length _ _ _ (by rw [hseg, hl1]; omega)]; exact hl1
  have hC2t : C2.take ((cap + 1) * 1) = cur.take (i * 1) ++ nw ++ cur.drop (i * 1) := by
    have e1 : (i + 1) * 1 = i * 1 + nw.length := by rw [hnw, Nat.succ_mul]
    have e2 : (cap + 1) * 1 = (i + 1) * 1 + (cur.drop (i * 1)).length := by rw [hseg, ← Nat.add_mul]; congr 1; omega
    rw [hC2, e2, lay_take (by rw [hl1]; exact Nat.mul_le_mul_right _ (by omega)), e1, hC1, lay_take (by rw [hRl]; exact Nat.mul_le_mul_right _ (by omega)), hRi]
  have hf1 : Wf.ownsRow base 125 1 (.slice (some ⟨N, 0, none⟩) (cap + 1) G) (cap + 1) (cur.take (i * 1) ++ nw ++ cur.drop (i * 1)) := by
    refine ⟨by rw [← hC2t, List.length_take, hl2, Nat.min_eq_left (Nat.mul_le_mul_right _ hGn)], .inr ⟨N, G, C2.toArray, rfl, by omega, hB2, hGn, by unfold maxLen; omega, by simp [hl2], by simpa using hC2t⟩⟩
  have hf2 : w.grownBy Wf (some g) := by
    rw [hWf]
    refine ⟨rfl, rfl, rfl, by simp [World.setRow], fun k' hk _ => ?_⟩
    rw [setRow_other _ _ _ _ (by omega)]
    show ((w.drew.alloc (.cells ROW.toArray 125)).setRow N C1.toArray).heap[k']? = _
    rw [setRow_other _ _ _ _ (by omega)]
    exact Below.heap_alloc w.drew _ k' hk
  rw [hWf] at hf1 hf2
  rw [← hN] at hrz
  have HCW : Hid (∀ ty dc sc, (Builtin.copy_ #[83, 83] ty #[.slice (some ⟨N, i + 1, none⟩) (cap - i) dc, .slice (some ⟨g, i, none⟩) (cap - i) sc]).run Try.prog ((w.alloc (.cells ROW.toArray 125)).drew.setRow N C1.toArray).drew =
      .ok (goInt (Nat.min (cap - i) (cap - i))) (((w.alloc (.cells ROW.toArray 125)).drew.setRow N C1.toArray).drew.setRow N C2.toArray)) := fun ty dc sc => hcpB ((w.alloc (.cells ROW.toArray 125)).drew.setRow N C1.toArray).drew (by exact hB1) (by exact hBg) ty dc sc
  have HF1 := Lib.hid hf1
  have HF2 := Lib.hid hf2
  have HA := Lib.hid hA
  have HA2 := Lib.hid hA2
  have HNN := Lib.hid hN
  have d1 : ((i : Int) == (cap : Int)) = false := by simp; omega
  have d3 : ¬ (cap = i) := by omega
  have d5 : ¬ (G = i) := by omega
  have d6 : ¬ (G = i + 1) := by omega
  have hw1 : IntKind.i64.wrap ((i : Int) + 1) = (i : Int) + 1 := by rw [IntKind.wrap_i64]; omega
  have hb1 : (0 : Int) ≤ (i : Int) + 1 := by omega
  have hb2 : (i : Int) + 1 ≤ (cap : Int) + 1 := by omega
  have htn : ((i : Int) + 1).toNat = i + 1 := by omega
  have hb3 : (i : Int) ≤ (cap : Int) + 1 := by omega
  have hb4 : (i : Int) ≤ (cap : Int) := by omega
  clear hcpB hg hcs h2 hnw h1c h1n hcur hkk hik hold hG hROW hRl hRi hz hl1 hseg hC1 hC2 hWf hA hB1 hB2 hA2 hBg hl2 hC2t hf1 hf2 hgs h2s hN hz0 hz1 hz2 hi0
  go_enter Try.func65, Try.ntmps65
  go_wp2_with (first
    | (at_builtin; refine Lib.wpList_append_run _ rfl _ _ _ _ rfl _ _ rfl rfl _ _ (hrz _) ?_)
    | (refine wpList_copy_run _ rfl _ _ 83 83 rfl _ _ rfl rfl (hcpA _ (by exact HA.out) (by exact HA2.out) _ _) ?_))
  go_region_law (refine step_copy_run rfl _ _ 83 83 rfl (.slice (some ⟨N, i + 1, none⟩) (cap - i) (G - (i + 1))) (.slice (some ⟨g, i, none⟩) (cap - i) (cap - i)) (by simp [Act.eval, Act.put]) (by simp [Act.eval, Act.put]) (HCW.out _ _ _) ?_)
  go_wp2_with fail
  go_ret
  exact ⟨_, rfl, HF1.out, HF2.out, .inr (by rw [← HNN.out]; rfl)⟩

theorem insL_any (base g g2 n cap i : Nat) (xs : List Value) (nw : List Value) (w : World) (hown : w.ownsRow base 125 1 (.slice (some ⟨g, 0, none⟩) n cap) n xs) (hB : base ≤ w.heap.size)
    (h2 : Blk w g2 125 nw.toArray) (hnw : nw.length = 1) (hne : g2 ≠ g) (hi : i ≤ n) (hn6 : n ≤ 1000000) (h1c : ∀ v ∈ xs, v.oneCell' = true) (h1n : ∀ v ∈ nw, v.oneCell' = true) :
    Calls Try.prog 65 #[.slice (some ⟨g, 0, none⟩) n cap, .int .i64 i, .slice (some ⟨g2, 0, none⟩) 1 1] w (Inserted base 125 1 g n i xs nw w) := by
  rcases Nat.eq_or_lt_of_le hi with rfl | hlt
  · exact insL_end base g g2 i cap xs nw w hown hB h2 hnw hn6 h1n
  · rcases hown.2 with ⟨h, _⟩ | ⟨g', cap', cur, hv, hb, hg, hnc, hcm, hcs, htk⟩
    · cases h
    · cases hv
      have hcl : cur.toList.length = cap * 1 := by simpa using hcs
      have hgb : Blk w g 125 cur.toList.toArray := by simpa [Blk] using hg
      rw [← htk] at h1c
      by_cases hr : n + 1 ≤ cap
      · refine (insL_shift g g2 n cap i cur.toList nw w hgb hcl hr hcm h2 hnw hne hlt hn6 h1c h1n).mono ?_
        rintro e w' ⟨rfl, rfl⟩
        refine ⟨_, rfl, ⟨?_, .inr ⟨g, cap, _, rfl, hb, setRow_heap _ g _ _ _ _ hg, hr, hcm, ?_, ?_⟩⟩, ⟨rfl, rfl, rfl, by simp [World.setRow], fun q _ hq => setRow_other w.drew g q _ (fun e => hq (by rw [e]))⟩, .inl rfl⟩
        · rw [← htk, List.length_append, List.length_append, List.length_take, List.length_drop, List.length_take, hcl, hnw]; omega
        · have hs : ((cur.toList.take (n * 1)).drop (i * 1)).length = (n - i) * 1 := by rw [List.length_drop, List.length_take, hcl]; omega
          simp only [List.size_toArray]
          rw [lay_length, lay_length, hcl]
          · rw [hs, hcl]; omega
          · rw [lay_length, hnw, hcl]
            · omega
            · rw [hs, hcl]; omega
        · rw [← htk]
          exact ins_lay hcl hr (Nat.le_of_lt hlt) hnw
      · have := insL_grow base g g2 n cap i cur.toList nw w hgb hcl hnc (by omega) hcm hB h2 hnw hlt hn6 h1c h1n
        rw [htk] at this
        exact this

end Go.Proofs.Ytkgggioldpnfaaa
