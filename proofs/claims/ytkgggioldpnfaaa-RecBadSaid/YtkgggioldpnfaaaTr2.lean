/-
  A tree that the call owns: its rows, its leaves, its chains; what a store into a leaf and an insertion do to it.
-/
import Derived.Test.YtkgggioldpnfaaaTr1
import Derived.Test.YtkgggioldpnfaaaIns
namespace Go.Mb
open Go.RowKit

/-- an item's chain lies in memory of the call's own -/
def ItOk (base : Nat) (w : World) (x : It) : Prop := w.ownsRow base 92 3 (.slice x.ao x.n x.cap) x.n (x.vs.map Ver.cells).flatten ∧ x.vs.length = x.n ∧ 0 < x.n ∧ x.n ≤ 1000000
def flat (fs : List Lf) : List It := fs.flatMap (·.its)

structure TrAt (base : Nat) (w : World) (cs : Array Value) (o : Nat) (c : Int) (fs : List Lf) (lo : Option Addr) (lcap : Nat) : Prop where
  cell0 : cs[o]? = some (.slice lo fs.length lcap)
  cell1 : cs[o + 1]? = some (.int .i64 c)
  rows : w.ownsRow base 125 1 (.slice lo fs.length lcap) fs.length (fs.map Lf.cells).flatten
  leaf : ∀ f ∈ fs, w.ownsRow base 124 2 (.slice f.ao f.n f.cap) f.n (f.its.map It.cells).flatten ∧ f.its.length = f.n ∧ 0 < f.n
  its : ∀ f ∈ fs, ∀ x ∈ f.its, ItOk base w x
  apart : (fs.map Lf.ao).Nodup

theorem It.wide (l : List It) : ∀ x ∈ l.map It.cells, x.length = 2 := by
  intro x hx
  obtain ⟨y, _, rfl⟩ := List.mem_map.1 hx
  rfl
theorem It.one (l : List It) : ∀ x ∈ l.map It.cells, ∀ u ∈ x, u.oneCell' = true := by
  intro x hx u hu
  obtain ⟨y, _, rfl⟩ := List.mem_map.1 hx
  simp [It.cells] at hu
  rcases hu with rfl | rfl <;> rfl
theorem It.one_flat (l : List It) : ∀ u ∈ (l.map It.cells).flatten, u.oneCell' = true := by
  intro u hu
  obtain ⟨x, hx, hu⟩ := List.mem_flatten.1 hu
  exact It.one l x hx u hu
theorem Lf.one_flat (l : List Lf) : ∀ u ∈ (l.map Lf.cells).flatten, u.oneCell' = true := by
  intro u hu
  obtain ⟨x, hx, hu⟩ := List.mem_flatten.1 hu
  obtain ⟨y, _, rfl⟩ := List.mem_map.1 hx
  simp [Lf.cells] at hu
  subst hu
  rfl
theorem It.flat_length (l : List It) : (l.map It.cells).flatten.length = l.length * 2 := by rw [Go.Mb.flat_length 2 _ (It.wide l), List.length_map]
theorem Lf.flat_length (l : List Lf) : (l.map Lf.cells).flatten.length = l.length := by rw [Go.Mb.flat_length 1 _ (Lf.wide l), List.length_map, Nat.mul_one]
theorem Lf.flat_eq (l : List Lf) : (l.map Lf.cells).flatten = l.map fun f => .slice f.ao f.n f.cap := by
  induction l with
  | nil => rfl
  | cons f l ih => simp [Lf.cells, ih]

/-- an owned slice that is not empty begins at the head of a block -/
theorem own_head {w : World} {base : Nat} {e : TypeId} {k n cap : Nat} {ao : Option Addr} {xs : List Value} (h : w.ownsRow base e k (.slice ao n cap) n xs) (hn : 0 < n) :
    ∃ g, ao = some ⟨g, 0, none⟩ ∧ g < w.heap.size ∧ base ≤ g ∧ ∃ cur, Blk w g e cur ∧ cur.size = cap * k ∧ n ≤ cap := by
  rcases h.2 with ⟨h', h0⟩ | ⟨g, cap', cur, h', hb, hg, hnc, _, hcs, _⟩
  · omega
  · cases h'
    exact ⟨g, rfl, (Array.getElem?_eq_some_iff.1 hg).1, hb, cur, hg, hcs, hnc⟩

section
variable {base : Nat} {w w' : World} {cs : Array Value} {o : Nat} {c : Int} {fs : List Lf} {lo : Option Addr} {lcap : Nat}
theorem ItOk.chg {B : Nat} {ts : List TypeId} {x : It} (h : ItOk base w x) (hc : Chg B ts w w') (ht : 92 ∉ ts) : ItOk base w' x := ⟨own_chg h.1 hc ht, h.2⟩
theorem TrAt.below (h : TrAt base w cs o c fs lo lcap) (hb : Below w.heap.size w w') : TrAt base w' cs o c fs lo lcap :=
  ⟨h.cell0, h.cell1, own_below h.rows hb, fun f hf => ⟨own_below (h.leaf f hf).1 hb, (h.leaf f hf).2⟩, fun f hf x hx => (h.its f hf x hx).chg (Chg.of_below hb 0 []) (by simp), h.apart⟩
theorem TrAt.chg {B : Nat} {ts : List TypeId} (h : TrAt base w cs o c fs lo lcap) (hc : Chg B ts w w') (h1 : 92 ∉ ts) (h2 : 124 ∉ ts) (h3 : 125 ∉ ts) : TrAt base w' cs o c fs lo lcap :=
  ⟨h.cell0, h.cell1, own_chg h.rows hc h3, fun f hf => ⟨own_chg (h.leaf f hf).1 hc h2, (h.leaf f hf).2⟩, fun f hf x hx => (h.its f hf x hx).chg hc h1, h.apart⟩
theorem TrAt.fewer (h : TrAt base w cs o c fs lo lcap) : fs.length ≤ (flat fs).length := by
  have : ∀ l : List Lf, (∀ f ∈ l, 0 < f.its.length) → l.length ≤ (flat l).length := by
    intro l
    induction l with
    | nil => intro _; simp
    | cons f l ih =>
      intro hl
      have h1 := hl f (by simp)
      have h2 := ih fun g hg => hl g (by simp [hg])
      simp [flat] at h2 ⊢
      omega
  exact this fs fun f hf => by have := h.leaf f hf; omega
theorem TrAt.leaf_le (h : TrAt base w cs o c fs lo lcap) {f : Lf} (hf : f ∈ fs) : f.n ≤ (flat fs).length := by
  rw [← (h.leaf f hf).2.1]
  unfold flat
  obtain ⟨a, b, rfl⟩ := List.append_of_mem hf
  simp; omega
/-- the tree, as one that reads -/
theorem TrAt.rd {S : Nat} {tS : TypeId} (h : TrAt base w cs o c fs lo lcap) (hS : Blk w S tS cs) (hb : (flat fs).length ≤ 1000000) : TrRd w.heap.size w S o lo fs.length lcap fs := by
  refine ⟨hS.lt, by rw [hS.cell]; exact h.cell0, ?_, fun f hf => ?_, Nat.le_trans h.fewer hb⟩
  · obtain ⟨ao, cap, e, hr, _⟩ := Rd.of_own h.rows (Lf.wide fs) (by simp)
    cases e
    exact hr
  · obtain ⟨h1, h2, h3⟩ := h.leaf f hf
    obtain ⟨ao, cap, e, hr, _⟩ := Rd.of_own h1 (It.wide f.its) (by simpa using h2)
    injection e with e1 e2 e3
    refine ⟨?_, h3, Nat.le_trans (h.leaf_le hf) hb⟩
    rw [e1, e3]
    exact hr
theorem TrAt.head (h : TrAt base w cs o c fs lo lcap) {f : Lf} (hf : f ∈ fs) : ∃ g, f.ao = some ⟨g, 0, none⟩ ∧ g < w.heap.size ∧ base ≤ g ∧ ∃ cur, Blk w g 124 cur ∧ cur.size = f.cap * 2 ∧ f.n ≤ f.cap := own_head (h.leaf f hf).1 (h.leaf f hf).2.2
theorem TrAt.root (h : TrAt base w cs o c fs lo lcap) (h0 : 0 < fs.length) : ∃ L, lo = some ⟨L, 0, none⟩ ∧ L < w.heap.size ∧ base ≤ L ∧ ∃ cur, Blk w L 125 cur ∧ cur.size = lcap * 1 ∧ fs.length ≤ lcap := own_head h.rows h0

/-- the same values at the tree's two cells -/
theorem TrAt.cells {cs' : Array Value} {c' : Int} (h : TrAt base w cs o c fs lo lcap) (h0 : cs'[o]? = cs[o]?) (h1 : cs'[o + 1]? = some (.int .i64 c')) : TrAt base w cs' o c' fs lo lcap :=
  ⟨h0.trans h.cell0, h1, h.rows, h.leaf, h.its, h.apart⟩

theorem nodup_other {l : List (Option Addr)} (h : l.Nodup) {i j : Nat} {x : Option Addr} (hi : l[i]? = some x) (hj : l[j]? = some x) : i = j := by
  have hi' := (List.getElem?_eq_some_iff.1 hi)
  have hj' := (List.getElem?_eq_some_iff.1 hj)
  obtain ⟨h1, e1⟩ := hi'
  obtain ⟨h2, e2⟩ := hj'
  have hp := List.pairwise_iff_getElem.1 h
  rcases Nat.lt_trichotomy i j with hlt | he | hlt
  · exact absurd (e1.trans e2.symm) (hp i j h1 h2 hlt)
  · exact he
  · exact absurd (e2.trans e1.symm) (hp j i h2 h1 hlt)

/-- what holds of a tree's other leaves when one leaf's block turns -/
theorem TrAt.others (h : TrAt base w cs o c fs lo lcap) {i : Nat} {f : Lf} (hi : fs[i]? = some f) {g : Nat} (hg : f.ao = some ⟨g, 0, none⟩) (hw : w.grownBy w' (some g)) {j : Nat} {f2 : Lf} (hj : fs[j]? = some f2) (hne : j ≠ i) :
    w'.ownsRow base 124 2 (.slice f2.ao f2.n f2.cap) f2.n (f2.its.map It.cells).flatten := by
  refine (h.leaf f2 (List.mem_of_getElem? hj)).1.kept hw (.inr fun e => ?_)
  obtain ⟨g2, e2, _⟩ := h.head (List.mem_of_getElem? hj)
  rw [e2] at e
  simp [Value.ownBlock] at e
  subst e
  exact hne (nodup_other h.apart (x := f.ao) (by rw [List.getElem?_map, hj, hg]; simp [e2]) (by rw [List.getElem?_map, hi]; rfl))

theorem chain_grown {x : It} {g : Nat} {t : TypeId} {cur : Array Value} (h : ItOk base w x) (hw : w.grownBy w' (some g)) (hg : Blk w g t cur) (ht : t ≠ 92) : ItOk base w' x := by
  refine ⟨h.1.kept hw (.inr fun e => ?_), h.2⟩
  obtain ⟨g2, e2, _, _, cur2, hb, _⟩ := own_head h.1 h.2.2.1
  rw [e2] at e
  simp [Value.ownBlock] at e
  subst e
  unfold Blk at hb hg
  rw [hb] at hg
  cases hg
  exact ht rfl
theorem rows_grown {g : Nat} {t : TypeId} {cur : Array Value} {v : Value} {n : Nat} {xs : List Value} {e : TypeId} {k : Nat} (h : w.ownsRow base e k v n xs) (hw : w.grownBy w' (some g)) (hg : Blk w g t cur) (ht : t ≠ e) : w'.ownsRow base e k v n xs := by
  refine h.kept hw (.inr fun ee => ?_)
  rcases h.2 with ⟨rfl, _⟩ | ⟨g2, cap, cur2, rfl, _, hb, _⟩
  · simp [Value.ownBlock] at ee
  · simp [Value.ownBlock] at ee
    subst ee
    unfold Blk at hg
    rw [hb] at hg
    cases hg
    exact ht rfl

/-- ONE LEAF REPLACED, its value in the row of leaves as it was -/
theorem TrAt.same (h : TrAt base w cs o c fs lo lcap) {i : Nat} {f f' : Lf} (hi : fs[i]? = some f) {g : Nat} (hg : f.ao = some ⟨g, 0, none⟩) (hw : w.grownBy w' (some g))
    (h1 : w'.ownsRow base 124 2 (.slice f'.ao f'.n f'.cap) f'.n (f'.its.map It.cells).flatten) (h2 : f'.its.length = f'.n) (h3 : 0 < f'.n) (h4 : ∀ x ∈ f'.its, ItOk base w' x) (e1 : f'.ao = f.ao) (e2 : f'.n = f.n) (e3 : f'.cap = f.cap) :
    TrAt base w' cs o c (fs.set i f') lo lcap := by
  obtain ⟨g', e4, _, _, cur, hb, _⟩ := h.head (List.mem_of_getElem? hi)
  rw [hg] at e4
  cases e4
  have hcells : (fs.set i f').map Lf.cells = fs.map Lf.cells := by
    rw [List.map_set]
    have : f'.cells = f.cells := by simp [Lf.cells, e1, e2, e3]
    rw [this]
    apply List.ext_getElem?
    intro j
    rw [List.getElem?_set]
    split
    · rename_i hj; subst hj; rw [List.getElem?_map, hi]; simp [(List.getElem?_eq_some_iff.1 hi).1]
    · rfl
  have hao : (fs.set i f').map Lf.ao = fs.map Lf.ao := by
    rw [List.map_set, e1]
    apply List.ext_getElem?
    intro j
    rw [List.getElem?_set]
    split
    · rename_i hj; subst hj; rw [List.getElem?_map, hi]; simp [(List.getElem?_eq_some_iff.1 hi).1]
    · rfl
  refine ⟨by rw [List.length_set]; exact h.cell0, h.cell1, ?_, fun f2 hf2 => ?_, fun f2 hf2 x hx => ?_, by rw [hao]; exact h.apart⟩
  · rw [List.length_set, hcells]
    exact rows_grown h.rows hw hb (by decide)
  · obtain ⟨j, hj⟩ := List.mem_iff_getElem?.1 hf2
    rw [List.getElem?_set] at hj
    split at hj
    · split at hj
      · cases hj; exact ⟨h1, h2, h3⟩
      · cases hj
    · rename_i hne
      exact ⟨h.others hi hg hw hj (fun e => hne e.symm), (h.leaf f2 (List.mem_of_getElem? hj)).2⟩
  · obtain ⟨j, hj⟩ := List.mem_iff_getElem?.1 hf2
    rw [List.getElem?_set] at hj
    split at hj
    · split at hj
      · cases hj; exact h4 x hx
      · cases hj
    · exact chain_grown (h.its f2 (List.mem_of_getElem? hj) x hx) hw hb (by decide)

/-- ONE LEAF REPLACED, its value stored anew in the row of leaves; only the leaf's own block has turned, or it lies in a new one -/
theorem TrAt.swap (h : TrAt base w cs o c fs lo lcap) {i : Nat} {f f' : Lf} (hi : fs[i]? = some f) {g g' L : Nat} (hg : f.ao = some ⟨g, 0, none⟩) (hw : w.grownBy w' (some g))
    (h1 : w'.ownsRow base 124 2 (.slice f'.ao f'.n f'.cap) f'.n (f'.its.map It.cells).flatten) (h2 : f'.its.length = f'.n) (h3 : 0 < f'.n) (h4 : ∀ x ∈ f'.its, ItOk base w' x)
    (e1 : f'.ao = some ⟨g', 0, none⟩) (e2 : g' = g ∨ w.heap.size ≤ g') (hL : lo = some ⟨L, 0, none⟩) :
    TrAt base (w'.setCell ⟨L, i, none⟩ (.slice f'.ao f'.n f'.cap)) cs o c (fs.set i f') lo lcap := by
  obtain ⟨g0, e4, _, _, cur, hb, _⟩ := h.head (List.mem_of_getElem? hi)
  rw [hg] at e4
  cases e4
  have hlt := (List.getElem?_eq_some_iff.1 hi).1
  subst hL
  have hr := rows_grown h.rows hw hb (by decide)
  obtain ⟨hs1, hs2⟩ := hr.stored i (.slice f'.ao f'.n f'.cap)
  obtain ⟨L', e5, _, _, curL, hbL, _⟩ := own_head hr (by omega)
  cases e5
  have hcells : ((fs.map Lf.cells).flatten).set i (.slice f'.ao f'.n f'.cap) = ((fs.set i f').map Lf.cells).flatten := by
    rw [Lf.flat_eq, Lf.flat_eq, List.map_set]
  have hao : ((fs.set i f').map Lf.ao).Nodup := by
    rw [List.map_set]
    have hp := List.pairwise_iff_getElem.1 h.apart
    have hnew : ∀ j (hj : j < (fs.map Lf.ao).length), j ≠ i → (fs.map Lf.ao)[j] ≠ f'.ao := by
      intro j hj hne he
      have hj' : j < fs.length := by simpa using hj
      obtain ⟨g2, e6, hlt2, _⟩ := h.head (List.getElem_mem hj')
      rw [List.getElem_map, e6, e1] at he
      injection he with he
      injection he with he
      rcases e2 with e2 | e2
      · subst e2
        exact hne (nodup_other h.apart (x := f.ao) (by rw [List.getElem?_map, List.getElem?_eq_getElem hj', hg]; simp [e6, he]) (by rw [List.getElem?_map, hi]; rfl))
      · omega
    refine List.pairwise_iff_getElem.2 fun a b ha hb2 hab => ?_
    rw [List.getElem_set, List.getElem_set]
    have ha' : a < (fs.map Lf.ao).length := by simpa using ha
    have hb' : b < (fs.map Lf.ao).length := by simpa using hb2
    split
    · rename_i e
      subst e
      rw [if_neg (by omega)]
      exact fun e => hnew b hb' (by omega) e.symm
    · split
      · rename_i e
        subst e
        exact hnew a ha' (by omega)
      · exact hp a b ha' hb' hab
  refine ⟨by rw [List.length_set]; exact h.cell0, h.cell1, ?_, fun f2 hf2 => ?_, fun f2 hf2 x hx => ?_, hao⟩
  · rw [List.length_set, ← hcells]
    exact hs1
  · obtain ⟨j, hj⟩ := List.mem_iff_getElem?.1 hf2
    rw [List.getElem?_set] at hj
    split at hj
    · cases hj; exact ⟨rows_grown h1 hs2 hbL (by decide), h2, h3⟩
    · rename_i hne
      exact ⟨rows_grown (h.others hi hg hw hj (fun e => hne e.symm)) hs2 hbL (by decide), (h.leaf f2 (List.mem_of_getElem? hj)).2⟩
  · obtain ⟨j, hj⟩ := List.mem_iff_getElem?.1 hf2
    rw [List.getElem?_set] at hj
    split at hj
    · cases hj; exact chain_grown (h4 x hx) hs2 hbL (by decide)
    · exact chain_grown (chain_grown (h.its f2 (List.mem_of_getElem? hj) x hx) hw hb (by decide)) hs2 hbL (by decide)

/-- A LEAF MORE, in the row of leaves -/
theorem TrAt.more (h : TrAt base w cs o c fs lo lcap) {i : Nat} (hi : i ≤ fs.length) {f' : Lf} {g' L : Nat} (_hL : lo = some ⟨L, 0, none⟩) {w' : World} (hw : w.grownBy w' (some L)) {lo' : Option Addr} {lcap' : Nat} {cs' : Array Value} {cur : Array Value} (hbL : Blk w L 125 cur)
    (hr : w'.ownsRow base 125 1 (.slice lo' (fs.length + 1) lcap') (fs.length + 1) ((fs.map Lf.cells).flatten.take (i * 1) ++ [.slice f'.ao f'.n f'.cap] ++ (fs.map Lf.cells).flatten.drop (i * 1)))
    (h1 : w.ownsRow base 124 2 (.slice f'.ao f'.n f'.cap) f'.n (f'.its.map It.cells).flatten) (h2 : f'.its.length = f'.n) (h3 : 0 < f'.n) (h4 : ∀ x ∈ f'.its, ItOk base w x)
    (e1 : f'.ao = some ⟨g', 0, none⟩) (e2 : ∀ f ∈ fs, f.ao ≠ some ⟨g', 0, none⟩) (hc0 : cs'[o]? = some (.slice lo' (fs.length + 1) lcap')) (hc1 : cs'[o + 1]? = some (.int .i64 c)) :
    TrAt base w' cs' o c (fs.take i ++ f' :: fs.drop i) lo' lcap' := by
  have hlen : (fs.take i ++ f' :: fs.drop i).length = fs.length + 1 := by simp; omega
  have hmem : ∀ f2 ∈ fs.take i ++ f' :: fs.drop i, f2 = f' ∨ f2 ∈ fs := by
    intro f2 hf2
    rcases List.mem_append.1 hf2 with h5 | h5
    · exact .inr (List.mem_of_mem_take h5)
    · rcases List.mem_cons.1 h5 with h6 | h6
      · exact .inl h6
      · exact .inr (List.mem_of_mem_drop h6)
  refine ⟨by rw [hlen]; exact hc0, hc1, ?_, fun f2 hf2 => ?_, fun f2 hf2 x hx => ?_, ?_⟩
  · rw [hlen]
    have e : ((fs.take i ++ f' :: fs.drop i).map Lf.cells).flatten = (fs.map Lf.cells).flatten.take (i * 1) ++ [.slice f'.ao f'.n f'.cap] ++ (fs.map Lf.cells).flatten.drop (i * 1) := by
      rw [Lf.flat_eq, Lf.flat_eq, Nat.mul_one, ← List.map_take, ← List.map_drop]
      simp
    rw [e]
    exact hr
  · rcases hmem f2 hf2 with rfl | h5
    · exact ⟨rows_grown h1 hw hbL (by decide), h2, h3⟩
    · exact ⟨rows_grown (h.leaf f2 h5).1 hw hbL (by decide), (h.leaf f2 h5).2⟩
  · rcases hmem f2 hf2 with rfl | h5
    · exact chain_grown (h4 x hx) hw hbL (by decide)
    · exact chain_grown (h.its f2 h5 x hx) hw hbL (by decide)
  · rw [List.map_append, List.map_cons, List.nodup_append]
    have hd := h.apart
    rw [← List.take_append_drop i fs, List.map_append, List.nodup_append] at hd
    obtain ⟨hd1, hd2, hd3⟩ := hd
    refine ⟨hd1, ?_, fun a ha b hb => ?_⟩
    · rw [List.nodup_cons]
      refine ⟨fun hm => ?_, hd2⟩
      obtain ⟨f3, hf3, e3⟩ := List.mem_map.1 hm
      exact e2 f3 (List.mem_of_mem_drop hf3) (e3.trans e1)
    · rcases List.mem_cons.1 hb with rfl | hb
      · obtain ⟨f3, hf3, e3⟩ := List.mem_map.1 ha
        rintro rfl
        exact e2 f3 (List.mem_of_mem_take hf3) (e3.trans e1)
      · exact hd3 a ha b hb
end
end Go.Mb
