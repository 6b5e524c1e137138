/-
  chain.Last, chain.Put (a version that is behind all).
-/
import Derived.Test.YtkgggioldpnfaaaSt2
import Derived.Deep.RegionLawGrows
namespace Go.Mb
theorem lastV_nil : lastV [] = -1 := rfl
theorem lastV_at {l : List Ver} {n : Nat} {x : Ver} (hn : l.length = n) (_h0 : 0 < n) (hx : l[n - 1]? = some x) : lastV l = x.seq := by
  unfold lastV
  rw [List.getLast?_eq_getElem?, hn, hx]
end Go.Mb
namespace Go.Proofs.Ytkgggioldpnfaaa
open Go.RowKit Go.Mb

theorem Try.info92 : (Try.prog.info? 92).map (fun i => (i.zero, i.size, i.bytes)) = some (some (.agg #[.int .i64 0, .string ⟨#[]⟩, .bool false]), 3, 32) := by kernel_rfl

set_option maxHeartbeats 400000 in
set_option maxRecDepth 100000 in
theorem last_any (B : Nat) (ao : Option Addr) (n cap : Nat) (l : List Ver) (w : World) (h : RdV B w ao n cap l) :
    Calls Try.prog 66 #[.slice ao n cap] w (fun e w' => e = .returned (.int .i64 (lastV l)) ∧ w' = w) := by
  have hlen := h.len
  simp only [List.length_map] at hlen
  have hmax := h.max
  have hle := h.le
  unfold maxLen at hmax
  by_cases h0 : n = 0
  · subst h0
    obtain rfl : l = [] := List.eq_nil_of_length_eq_zero hlen
    go_enter Try.func66, Try.ntmps66
    go_wp2_with fail
    go_ret
    exact ⟨rfl, rfl⟩
  · obtain ⟨b, off, rfl, hb, hc⟩ := h.cells (by omega)
    obtain ⟨x, hx⟩ : ∃ x, l[n - 1]? = some x := ⟨l[n - 1]'(by omega), List.getElem?_eq_getElem _⟩
    obtain ⟨c0, _, _⟩ := RdV.at_ h hx rfl
    have hl := lastV_at hlen (by omega) hx
    have HL := Lib.hid hl
    have h1 : 0 < n := by omega
    clear hc hx hl hlen h0
    go_enter Try.func66, Try.ntmps66
    go_wp2_with fail
    go_ret
    exact ⟨ret_int HL.out.symm, rfl⟩

/-- what Put hands back: the chain with the version behind it, in new memory -/
def PutOk (D : Nat) (l : List Ver) (w : World) (e : Ending) (w' : World) : Prop :=
  ∃ v', e = .returned (.tuple #[v', .int .i64 0]) ∧ w'.ownsRow D 92 3 v' l.length (l.map Ver.cells).flatten ∧ Below w.heap.size w w'

set_option maxHeartbeats 2000000 in
set_option maxRecDepth 100000 in
theorem chPut_any (B : Nat) (ao : Option Addr) (n cap : Nat) (l : List Ver) (sq : Int) (vl : ByteArray) (gn : Bool) (w : World) (h : RdV B w ao n cap l) (hnone : ao = none → n = 0 ∧ cap = 0) (hB : B ≤ w.heap.size) (hn : n ≤ 1000000)
    (h1 : lastV l < sq) (h2 : 0 ≤ sq) (h3 : sq ≤ 1099511627776) (h4 : gn = true → vl.toList.isEmpty = true) :
    Calls Try.prog 45 #[.slice ao n cap, .agg #[.int .i64 sq, .string vl, .bool gn]] w (PutOk w.heap.size (l ++ [⟨sq, vl, gn⟩]) w) := by
  have hlen := h.len
  simp only [List.length_map] at hlen
  have hmax := h.max
  have hle := h.le
  unfold maxLen at hmax
  obtain ⟨W0, hW0⟩ : ∃ W, W = w.alloc (Obj.cells #[.int .i64 sq, .string vl, .bool gn] 92) := ⟨_, rfl⟩
  obtain ⟨g, hg⟩ : ∃ g, g = w.heap.size := ⟨_, rfl⟩
  have hblk : Blk W0 g 92 #[.int .i64 sq, .string vl, .bool gn] := by rw [hW0, hg]; exact Blk.new _ _ _
  have hr0 : RdV B W0 ao n cap l := by rw [hW0]; exact h.below ((Below.refl _ _).alloc hB _)
  have c0 : W0.cell? ⟨g, 0, none⟩ = some (.int .i64 sq) := hblk.cell 0
  have c1 : W0.cell? ⟨g, 1, none⟩ = some (.string vl) := hblk.cell 1
  have c2 : W0.cell? ⟨g, 2, none⟩ = some (.bool gn) := hblk.cell 2
  have HL := Lib.hid hlen
  have HR := Lib.hid hr0
  have HN := Lib.hid hnone
  have HW := Lib.hid hW0
  have HGG := Lib.hid hg
  have d1 : decide (sq ≤ lastV l) = false := by simpa using h1
  have d2 : decide (sq < 0) = false := by simpa using h2
  have d3 : decide (1099511627776 < sq) = false := by simpa using h3
  clear hblk h hnone hW0 hg hlen hr0
  go_enter Try.func45, Try.ntmps45
  go_wp2_with fail
  rw [← HW.out, ← HGG.out]
  cases gn
  all_goals
    try have h4' := h4 rfl
    clear h4
    go_quiet ((go_at_call 66; exact Calls.quiet_of_same (last_any B ao n cap l _ (HR.out.drewN _))))
    go_wp2_with fail
    obtain ⟨i0, hi0, hz0, hz1, hz2⟩ := info_parts Try.info92
    have hR : RdV B (W0.drewN nq).drew ao n cap l := (HR.out.drewN nq).drew
    have hh := hR.holds
    have HH := Lib.hid hh
    have hf := Ver.flat_length l
    rw [HL.out] at hf
    have HF := Lib.hid hf
    have hnw : ∀ cs : List Value, ∀ j u, cs[j]? = some u → ((W0.drewN nq).drew.alloc (.cells cs.toArray 92)).cell? ((⟨W0.heap.size, 0, none⟩ : Addr).add j) = some u := fun cs j u hj => by
      rw [Addr.add_lit, Nat.zero_add]
      have := (Blk.new (W0.drewN nq).drew 92 cs.toArray).cell j
      simp only [World.drewN, World.drew] at this
      exact this.trans (by simpa using hj)
    have HNW := Lib.hid hnw
    have hol : ∀ o, ∀ b, ao = some b → ∀ j u, (l.map Ver.cells).flatten[j]? = some u → ((W0.drewN nq).drew.alloc o).cell? (b.add j) = some u := fun o b e j u hj => by
      have h1 := HH.out b e j u hj
      exact cell_later ((Below.refl _ _).alloc (Nat.le_refl _) _) h1
    have HOL := Lib.hid hol
    clear hR hh hf hnw hol
    go_region_law (refine step_append_grows rfl (.tmp 35) (.tmp 37) 90 rfl 92 i0 _ 3 32 Try.underlying90 hi0 hz0 hz1 hz2 rfl (by decide) ao n n (l.map Ver.cells).flatten (by simp [Act.eval]) (fun e => ⟨(HN.out e).1, (HN.out e).1⟩) HF.out (by exact HOL.out _) ⟨W0.heap.size, 0, none⟩ 1 1 [.int .i64 sq, .string vl, .bool _] (by simp [Act.eval]) rfl (by exact HNW.out _) (by simp [Value.oneCell']) (by omega) (by unfold maxLen; omega) (by omega) ?_; intro v' w' hown hgrow)
    go_wp2_with fail
    go_ret2
    have hb0 : Below w.heap.size w W0 := by rw [HW.out]; exact (Below.refl _ _).alloc (Nat.le_refl _) _
    have hb1 : ∀ q o, Below w.heap.size W0 ((W0.drewN q).alloc o) := fun q o => ((Below.refl _ W0).trans ⟨rfl, rfl, rfl, Nat.le_refl _, fun _ _ => rfl⟩ : Below w.heap.size W0 (W0.drewN q)).alloc hb0.size _
    refine ⟨v', rfl, ?_, hb0.trans ((hb1 _ _).grown hgrow ?_ (fun k e => nomatch e))⟩
    · have h := own_mono hown (base' := w.heap.size) (by rw [HW.out]; simp; omega)
      have e : ∀ b : Bool, ((l ++ [(⟨sq, vl, b⟩ : Ver)]).map Ver.cells).flatten = (l.map Ver.cells).flatten ++ [.int .i64 sq, .string vl, .bool b] := fun b => by simp [Ver.cells]
      rw [List.length_append, HL.out, e]
      exact h
    · have := hb0.size; simp; omega

end Go.Proofs.Ytkgggioldpnfaaa
