/-
  Last, Low; an item put into a store's tree.
-/
import Derived.Test.YtkgggioldpnfaaaSto1
namespace Go.Mb
open Go.RowKit Go.Proofs.Ytkgggioldpnfaaa
def PutSt (base S : Nat) (low : Int) (hist : List Com) (its : List It) (N : Nat) (x : It) (w : World) (e : Ending) (w' : World) : Prop :=
  ∃ b, e = .returned (.bool b) ∧ Chg base [87, 125, 124] w w' ∧ StoreAt base S w' low hist (ups its x) N
end Go.Mb
namespace Go.Proofs.Ytkgggioldpnfaaa
open Go.RowKit Go.Mb

theorem put_st (base S : Nat) (low : Int) (hist : List Com) (its : List It) (N N' : Nat) (x : It) (w : World) (h : StoreAt base S w low hist its N) (hx : ItOk base w x) (hl : lastV x.vs ≤ low + hist.length)
    (hN : its.length + 1 ≤ N') (hN0 : N ≤ N') (hN1 : N' ≤ 999999) (hxn : x.n ≤ N') :
    Calls Try.prog 42 #[.pointer (some ⟨S, 0, none⟩), .string x.key, .slice x.ao x.n x.cap] w (PutSt base S low hist its N' x w) := by
  obtain ⟨fs, lo, lcap, hao, hcap, h⟩ := h
  have hlen : (flat fs).length = its.length := by rw [h.flt]
  refine (put_any base S 87 _ 0 its.length fs lo lcap x w h.tree h.blk (by rw [h.flt]; exact h.srt) (by omega) hx (by omega) (by omega) h.hb (by decide) (by decide) (by decide)).mono ?_
  rintro e w' ⟨b, cs', fs', lo', lcap', rfl, hblk, hcs, htr, hfl, hbe, hch⟩
  refine ⟨b, rfl, hch, fs', lo', lcap', hao, hcap, ?_⟩
  have hsz : cs'.size = 4 := by
    have h3 : cs'[3]? = some _ := (hcs 3 (by decide) (by decide)).trans rfl
    have h4 : cs'[4]? = none := (hcs 4 (by decide) (by decide)).trans rfl
    have := (Array.getElem?_eq_some_iff.1 h3).1
    have := Array.getElem?_eq_none_iff.1 h4
    omega
  have hcount : (if b then (its.length : Int) else its.length + 1) = ((ups its x).length : Int) := by
    rw [ups_length h.srt, hbe, h.flt]
    cases lookK its x.key <;> simp
  rw [hcount] at htr
  have e0 := htr.cell0
  have e1 := htr.cell1
  have e2 : cs'[2]? = some (.int .i64 low) := (hcs 2 (by decide) (by decide)).trans rfl
  have e3 : cs'[3]? = some (.slice hao hist.length hcap) := (hcs 3 (by decide) (by decide)).trans rfl
  have ecs : cs' = #[.slice lo' fs'.length lcap', .int .i64 (ups its x).length, .int .i64 low, .slice hao hist.length hcap] := by
    apply Array.ext_getElem?
    intro i
    match i with
    | 0 => exact e0
    | 1 => exact e1
    | 2 => exact e2
    | 3 => exact e3
    | i + 4 => rw [Array.getElem?_eq_none (by omega), Array.getElem?_eq_none (by simp)]
  rw [ecs] at hblk htr
  refine ⟨hblk, htr, by rw [hfl, h.flt], own_chg h.hrow hch (by decide), fun c hc => (h.coms c hc).chg hch (by decide), ups_srt h.srt, ⟨?_, ?_, ?_⟩, h.hb, h.low0, ?_⟩
  · rw [ups_length h.srt]
    have := h.few.1
    split <;> omega
  · have := h.few.2.1
    omega
  · intro y hy
    rcases ups_mem hy with rfl | hy
    · exact hxn
    · have := h.few.2.2 y hy
      omega
  · intro y hy
    rcases ups_mem hy with rfl | hy
    · exact hl
    · exact h.lastv y hy

set_option maxRecDepth 100000 in
theorem stLast_any (base S : Nat) (low : Int) (hist : List Com) (its : List It) (N : Nat) (w : World) (h : StoreAt base S w low hist its N) (hN : N ≤ 1000000) :
    Calls Try.prog 26 #[.pointer (some ⟨S, 0, none⟩)] w (fun e w' => e = .returned (.int .i64 (low + hist.length)) ∧ ∃ m, w' = w.drewN m) := by
  obtain ⟨c2, hao, hcap, c3⟩ := h.cells
  have hlow : 0 ≤ low ∧ low ≤ 1099511627776 ∧ hist.length ≤ N := by obtain ⟨_, _, _, _, _, h⟩ := h; exact ⟨h.low0.1, h.low0.2, h.few.2.1⟩
  have hsum : IntKind.i64.wrap (low + (hist.length : Int)) = low + hist.length := by
    rw [IntKind.wrap_i64]; omega
  clear h
  go_enter Try.func26, Try.ntmps26
  go_wp2_with fail
  go_quiet (fail)
  go_wp2_with fail
  go_ret
  exact ⟨rfl, _, rfl⟩

set_option maxRecDepth 100000 in
theorem stLow_any (base S : Nat) (low : Int) (hist : List Com) (its : List It) (N : Nat) (w : World) (h : StoreAt base S w low hist its N) (_hN : N ≤ 1000000) :
    Calls Try.prog 36 #[.pointer (some ⟨S, 0, none⟩)] w (fun e w' => e = .returned (.int .i64 low) ∧ Below w.heap.size w w') := by
  obtain ⟨c2, hao, hcap, c3⟩ := h.cells
  clear h
  go_enter Try.func36, Try.ntmps36
  go_wp2_with fail
  go_ret
  exact ⟨rfl, Below.refl _ _⟩

end Go.Proofs.Ytkgggioldpnfaaa
