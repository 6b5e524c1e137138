/-
  (*Tree).Put where the key is there.
-/
import Derived.Test.YtkgggioldpnfaaaGet
namespace Go.Mb
open Go.RowKit Go.Proofs.Ytkgggioldpnfaaa
theorem Blk.far {w : World} {g : Nat} {t : TypeId} {cs : Array Value} (h : Blk w g t cs) {p : Addr} (hp : g ≠ p.block) (u : Value) : Blk (w.setCell p u) g t cs := (Below.heap_setCell w p u g hp).trans h
theorem Blk.ne_ {w : World} {g g' : Nat} {t t' : TypeId} {cs cs' : Array Value} (h : Blk w g t cs) (h' : Blk w g' t' cs') (hne : t ≠ t') : g ≠ g' := by
  rintro rfl
  unfold Blk at h h'
  rw [h] at h'
  injection h' with h'
  injection h' with _ ht
  exact hne ht
theorem flatten_set2 : ∀ (l : List It) (k : Nat) (x y : It), l[k]? = some y → y.key = x.key → ((l.map It.cells).flatten).set (k * 2 + 1) (.slice x.ao x.n x.cap) = ((l.set k x).map It.cells).flatten
  | [], k, x, y, h, _ => by simp at h
  | z :: l, 0, x, y, h, e => by simp at h; subst h; simp [It.cells, e]
  | z :: l, k + 1, x, y, h, e => by
    have ih := flatten_set2 l k x y (by simpa using h) e
    have : (k + 1) * 2 + 1 = k * 2 + 1 + 1 + 1 := by omega
    simp only [List.map_cons, List.flatten_cons, List.set_cons_succ, ← ih]
    rw [this]
    simp [It.cells]
/-- what Put hands back -/
def PutDone (base S : Nat) (tS : TypeId) (cs : Array Value) (o : Nat) (c : Int) (fs : List Lf) (x : It) (w : World) (e : Ending) (w' : World) : Prop :=
  ∃ b cs' fs' lo' lcap', e = .returned (.bool b) ∧ Blk w' S tS cs' ∧ (∀ j, j ≠ o → j ≠ o + 1 → cs'[j]? = cs[j]?) ∧ TrAt base w' cs' o (if b then c else c + 1) fs' lo' lcap' ∧ flat fs' = ups (flat fs) x ∧
    b = (lookK (flat fs) x.key).isSome ∧ Chg base [tS, 125, 124] w w'
theorem ItOk.below {base : Nat} {w w' : World} {x : It} (h : ItOk base w x) (hb : Below w.heap.size w w') : ItOk base w' x := h.chg (Chg.of_below hb 0 []) (by simp)

/-- an item that is there gets another chain -/
theorem TrAt.put_there {base : Nat} {w : World} {cs : Array Value} {o : Nat} {c : Int} {fs : List Lf} {lo : Option Addr} {lcap : Nat} (h : TrAt base w cs o c fs lo lcap) {i k g : Nat} {f : Lf} {x y : It} (hi : fs[i]? = some f) (hg : f.ao = some ⟨g, 0, none⟩)
    (hy : f.its[k]? = some y) (e : y.key = x.key) (hx : ItOk base w x) :
    TrAt base (w.setCell ⟨g, k * 2 + 1, none⟩ (.slice x.ao x.n x.cap)) cs o c (fs.set i { f with its := f.its.set k x }) lo lcap := by
  have hfm := List.mem_of_getElem? hi
  obtain ⟨h1, h2, h3⟩ := h.leaf f hfm
  obtain ⟨g', e4, _, hg2, cur, hb, _⟩ := h.head hfm
  rw [hg] at e4
  cases e4
  rw [hg] at h1
  obtain ⟨hs1, hs2⟩ := h1.stored (k * 2 + 1) (.slice x.ao x.n x.cap)
  rw [flatten_set2 f.its k x y hy e] at hs1
  refine h.same hi hg hs2 (by rw [hg]; exact hs1) (by simpa using h2) h3 (fun z hz => ?_) rfl rfl rfl
  rcases List.mem_or_eq_of_mem_set hz with hz | rfl
  · exact chain_grown (h.its f hfm z hz) hs2 hb (by decide)
  · exact chain_grown hx hs2 hb (by decide)
/-- .. and the tree as one list -/
theorem flat_there {fs : List Lf} {i k : Nat} {f : Lf} {x y : It} (hp : Parted fs x.key i k f) (hs : Srt (flat fs)) (hy : f.its[k]? = some y) (e : y.key = x.key) : flat (fs.set i { f with its := f.its.set k x }) = ups (flat fs) x := by
  obtain ⟨hk, ey⟩ := List.getElem?_eq_some_iff.1 hy
  have hsp := hp.split
  rw [List.drop_eq_getElem_cons hk, ey, List.cons_append] at hsp
  have hs' := hs
  rw [hsp] at hs'
  obtain ⟨_, s2, _⟩ := hs'.append
  have hB := (List.pairwise_cons.1 s2).1
  rw [hsp, ups_at hp.lo (fun b hb => by rw [← e]; exact hB b hb) e, flat_set hp.at_]
  simp only [List.set_eq_take_append_cons_drop, if_pos hk, List.append_assoc, List.cons_append]
end Go.Mb
namespace Go.Proofs.Ytkgggioldpnfaaa
open Go.RowKit Go.Mb

set_option maxHeartbeats 1000000 in
set_option maxRecDepth 100000 in
theorem put_there (base S : Nat) (tS : TypeId) (cs : Array Value) (o : Nat) (c : Int) (fs : List Lf) (lo : Option Addr) (lcap : Nat) (x : It) (w : World)
    (hT : TrAt base w cs o c fs lo lcap) (hS : Blk w S tS cs) (hs : Srt (flat fs)) (hb : (flat fs).length ≤ 1000000) (hx : ItOk base w x)
    (hl : (lookK (flat fs) x.key).isSome = true) (htS : tS ≠ 124) :
    Calls Try.prog 42 #[.pointer (some ⟨S, o, none⟩), .string x.key, .slice x.ao x.n x.cap] w (PutDone base S tS cs o c fs x w) := by
  have hR := hT.rd hS hb
  have hle := hR.rows.le
  have hmax := hR.rows.max
  have hln := hR.few
  unfold maxLen at hmax
  have HT := Lib.hid hT
  have HS := Lib.hid hS
  have HR := Lib.hid hR
  have HSrt := Lib.hid hs
  have HX := Lib.hid hx
  have HLK := Lib.hid hl
  clear hT hS hR hs hx hl
  go_enter Try.func42, Try.ntmps42
  go_wp2_with fail
  refine (find_any w.heap.size S o lo fs.length lcap fs x.key w HR.out (Nat.le_refl _)).mono ?_
  rintro e w1 ⟨i, k, there, hsp, rfl, hb1⟩
  have HT1 := Lib.hid (HT.out.below hb1)
  have HS1 : Hid (Blk w1 S tS cs) := HS.out.chg (Chg.of_below hb1 0 []) (.inr (by simp))
  have HX1 := Lib.hid (HX.out.below hb1)
  have HSP := Lib.hid hsp
  have HB1 := Lib.hid hb1
  clear hsp hb1
  have hne : fs ≠ [] := by rintro rfl; have := HLK.out; simp [lookK, flat] at this
  obtain ⟨f, hp, hat⟩ := TSpot_parted HSP.out hne HSrt.out HT1.out.pos
  have hth : there = true := by
    cases there
    · have ha := hp.above HSrt.out hat.symm
      have := HLK.out
      rw [hp.split, lookK_mid hp.lo (fun b hb e => by have := ha b hb; rw [e, ltK_irrefl] at this; cases this)] at this
      cases this
    · rfl
  subst hth
  obtain ⟨y, hy, e, hlk⟩ := hp.yes hat.symm
  obtain ⟨L, g, rfl, hg, c0, c1, c2, _, c5⟩ := HT1.out.way HS1.out hp.at_
  obtain ⟨c3, c4⟩ := c2 k y hy
  have c6 := c5 (k * 2 + 1)
  have hi : i < fs.length := (List.getElem?_eq_some_iff.1 hp.at_).1
  have hk : k < f.n := by have := (List.getElem?_eq_some_iff.1 hy).1; have := HT1.out.leaf f (List.mem_of_getElem? hp.at_); omega
  have hgb := HT1.out.head (List.mem_of_getElem? hp.at_)
  have HGB := Lib.hid hgb
  have HP := Lib.hid hp
  have HY := Lib.hid hy
  have HE := Lib.hid e
  have HG := Lib.hid hg
  clear hlk c2 c5 hp hat hy e hgb hne
  go_wp2_with fail
  go_ret
  obtain ⟨g', eg, hg1, hg2, cur, hbg, _⟩ := HGB.out
  rw [HG.out] at eg
  cases eg
  refine ⟨true, cs, _, _, _, rfl, HS1.out.far (HS1.out.ne_ hbg htS) _, fun _ _ _ => rfl, HT1.out.put_there HP.out.at_ HG.out HY.out HE.out HX1.out, flat_there HP.out HSrt.out HY.out HE.out, HLK.out.symm, (Chg.of_below HB1.out _ _).trans (Chg.setCell _ hg2 hbg (by simp))⟩

end Go.Proofs.Ytkgggioldpnfaaa
