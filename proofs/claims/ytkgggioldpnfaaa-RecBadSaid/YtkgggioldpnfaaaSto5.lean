/-
  What Commit does to a store's memory; what a store's Get of a chain hands back.
-/
import Derived.Test.YtkgggioldpnfaaaSto4
namespace Go.Mb
open Go.RowKit Go.Proofs.Ytkgggioldpnfaaa
theorem lastOk_at {hist : List Com} {tm : Int} {p : Com} (h : hist[hist.length - 1]? = some p) : lastOk hist tm = decide (p.tm ≤ tm) := by
  unfold lastOk; rw [List.getLast?_eq_getElem?, h]
section
variable {base S : Nat} {w w' : World} {low : Int} {hist : List Com} {its : List It} {N : Nat} {fs : List Lf} {lo : Option Addr} {lcap : Nat} {hao : Option Addr} {hcap : Nat}
theorem StoreAt.more {N' : Nat} (h : StoreAt base S w low hist its N) (hN : N ≤ N') : StoreAt base S w low hist its N' := by
  obtain ⟨fs, lo, lcap, hao, hcap, h⟩ := h
  exact ⟨fs, lo, lcap, hao, hcap, h.blk, h.tree, h.flt, h.hrow, h.coms, h.srt, ⟨Nat.le_trans h.few.1 hN, Nat.le_trans h.few.2.1 hN, fun x hx => Nat.le_trans (h.few.2.2 x hx) hN⟩, h.hb, h.low0, h.lastv⟩
theorem SAt.below {N' : Nat} (h : SAt base S w low hist its N fs lo lcap hao hcap) (hb : Below w.heap.size w w') (hN : N ≤ N') : SAt base S w' low hist its N' fs lo lcap hao hcap :=
  have hc := Chg.of_below hb 0 []
  ⟨h.blk.chg hc (.inr (by simp)), h.tree.chg hc (by simp) (by simp) (by simp), h.flt, own_chg h.hrow hc (by simp), fun c hm => (h.coms c hm).chg hc (by simp), h.srt, ⟨Nat.le_trans h.few.1 hN, Nat.le_trans h.few.2.1 hN, fun x hx => Nat.le_trans (h.few.2.2 x hx) hN⟩, h.hb, h.low0, h.lastv⟩
theorem SAt.row_ne (h : SAt base S w low hist its N fs lo lcap hao hcap) : (Value.slice hao hist.length hcap).ownBlock ≠ some S := by
  rcases h.hrow.2 with ⟨e, _⟩ | ⟨g, cap, cur, e, _, hg, _⟩
  · rw [e]; simp [Value.ownBlock]
  · cases e
    simp only [Value.ownBlock, ne_eq, Option.some.injEq]
    rintro rfl
    have := hg.symm.trans h.blk
    simp at this
theorem SAt.row_lt (h : SAt base S w low hist its N fs lo lcap hao hcap) {g : Nat} (hg : w.heap.size ≤ g) : (Value.slice hao hist.length hcap).ownBlock ≠ some g := by
  rcases h.hrow.2 with ⟨e, _⟩ | ⟨g', cap, cur, e, _, hg', _⟩
  · rw [e]; simp [Value.ownBlock]
  · cases e
    simp only [Value.ownBlock, ne_eq, Option.some.injEq]
    rintro rfl
    have := (Array.getElem?_eq_some_iff.1 hg').1
    omega
theorem SAt.pushed (h : SAt base S w low hist its N fs lo lcap hao hcap) {v' : Value} {c : Com} (hown : w'.ownsRow base 28 3 v' (hist.length + 1) ((hist.map Com.cells).flatten ++ c.cells))
    (hgrow : w.grownBy w' (Value.slice hao hist.length hcap).ownBlock) (hc : ComOk base w c) (hN : hist.length + 1 ≤ N) :
    StoreAt base S (w'.setCell ⟨S, 3, none⟩ v') low (hist ++ [c]) its N := by
  have hb' : Blk w' S 87 #[.slice lo fs.length lcap, .int .i64 its.length, .int .i64 low, .slice hao hist.length hcap] := (hgrow.block S h.blk.lt (fun e => h.row_ne e.symm)).trans h.blk
  have hc1 : Chg base [28] w w' := own_grown h.hrow hgrow (Nat.le_refl _) (by simp)
  have hc2 : Chg base [87] w' (w'.setCell ⟨S, 3, none⟩ v') := Chg.setCell _ h.hb hb' (by simp)
  have hfl : ((hist ++ [c]).map Com.cells).flatten = (hist.map Com.cells).flatten ++ c.cells := by simp
  have hlen : (hist ++ [c]).length = hist.length + 1 := by simp
  obtain ⟨hao', hcap', rfl, _⟩ := own_form hown (Nat.succ_pos _)
  refine ⟨fs, lo, lcap, some ⟨hao', 0, none⟩, hcap', ?_, ?_, h.flt, ?_, ?_, h.srt, ⟨h.few.1, by omega, h.few.2.2⟩, h.hb, h.low0, ?_⟩
  · rw [hlen]
    exact hb'.set_ 3 _
  · exact ((h.tree.chg hc1 (by decide) (by decide) (by decide)).chg hc2 (by decide) (by decide) (by decide)).cells rfl rfl
  · rw [hfl, hlen]
    exact own_chg hown hc2 (by decide)
  · intro d hd
    rcases List.mem_append.1 hd with hd | hd
    · exact ((h.coms d hd).chg hc1 (by decide)).chg hc2 (by decide)
    · simp at hd
      rw [hd]
      exact (hc.chg hc1 (by decide)).chg hc2 (by decide)
  · intro x hx
    have := h.lastv x hx
    rw [hlen]
    omega
/-- the clone of a commit's writes, as read -/
theorem StoreAt.com_rd (h : StoreAt base S w low hist its N) {c : Com} (hc : c ∈ hist) : RdW w.heap.size w c.ao c.n c.cap c.ws := by
  obtain ⟨fs, lo, lcap, hao, hcap, h⟩ := h
  obtain ⟨h1, h2, h3⟩ := h.coms c hc
  obtain ⟨ao, cap, e, hr, _⟩ := Rd.of_own h1 (fun x hx => by obtain ⟨y, _, rfl⟩ := List.mem_map.1 hx; rfl) (by simpa using h2)
  cases e
  exact hr
theorem getA_mem {l : List It} {k : ByteArray} {vs : List Ver} (h : getA (l.map It.ab) k = some vs) : ∃ y ∈ l, y.key = k ∧ y.vs = vs := by
  rw [← lookK_ab] at h
  cases hl : lookK l k with
  | none => rw [hl] at h; cases h
  | some y => rw [hl] at h; obtain ⟨h1, h2⟩ := lookK_some hl; exact ⟨y, h1, h2, by simpa using h⟩
def GotSt (its : List It) (key : ByteArray) (w : World) (e : Ending) (w' : World) : Prop :=
  ∃ oao on ocap b, e = .returned (.tuple #[.slice oao on ocap, .bool b]) ∧ Below w.heap.size w w' ∧ RdV w.heap.size w oao on ocap ((getA (its.map It.ab) key).getD []) ∧ (oao = none → on = 0 ∧ ocap = 0) ∧ on ≤ 1000000
end
end Go.Mb
namespace Go.Proofs.Ytkgggioldpnfaaa
open Go.RowKit Go.Mb
theorem get_st (base S : Nat) (low : Int) (hist : List Com) (its : List It) (N : Nat) (key : ByteArray) (w : World) (h : StoreAt base S w low hist its N) (hN : N ≤ 1000000) :
    Calls Try.prog 44 #[.pointer (some ⟨S, 0, none⟩), .string key] w (GotSt its key w) := by
  obtain ⟨fs, lo, lcap, hao, hcap, h⟩ := h
  have hlen : (flat fs).length = its.length := by rw [h.flt]
  have := h.few.1
  refine (treeGet_any base S 87 _ 0 its.length fs lo lcap key w h.tree h.blk (by rw [h.flt]; exact h.srt) (by omega)).mono ?_
  rintro e w' ⟨h1, h2⟩
  rw [h.flt] at h1
  unfold GotSt
  rw [← lookK_ab]
  cases hl : lookK its key with
  | none =>
    rw [hl] at h1
    exact ⟨none, 0, 0, false, h1, h2, ⟨rfl, Nat.le_refl _, by simp, by simp, fun h => absurd h (Nat.lt_irrefl _)⟩, fun _ => ⟨rfl, rfl⟩, Nat.zero_le _⟩
  | some y =>
    rw [hl] at h1
    obtain ⟨hy, _⟩ := lookK_some hl
    have hy' := hy
    rw [← h.flt] at hy'
    obtain ⟨f, hf, hyf⟩ := List.mem_flatMap.1 hy'
    obtain ⟨q1, q2, q3, q4⟩ := h.tree.its f hf y hyf
    obtain ⟨ao, cap, e1, hr, _⟩ := Rd.of_own q1 (Ver.wide y.vs) (by simpa using q2)
    cases e1
    refine ⟨y.ao, y.n, y.cap, true, h1, h2, hr, fun e => ?_, q4⟩
    obtain ⟨g, _, e2, _⟩ := own_form q1 q3
    rw [e] at e2
    injection e2 with e3
    cases e3
end Go.Proofs.Ytkgggioldpnfaaa
