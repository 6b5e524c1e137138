/-
  (*Tree).Put of a new key into a leaf.
-/
import Derived.Test.YtkgggioldpnfaaaPut2
import Derived.Test.YtkgggioldpnfaaaHal
import Derived.Deep.RegionWith
namespace Go.Mb
open Go.RowKit Go.Proofs.Ytkgggioldpnfaaa
theorem flatten_ins (l : List It) (k : Nat) (x : It) : ((l.map It.cells).flatten).take (k * 2) ++ x.cells ++ ((l.map It.cells).flatten).drop (k * 2) = ((l.take k ++ x :: l.drop k).map It.cells).flatten := by
  have h : ∀ (l : List It) (k : Nat), ((l.map It.cells).flatten).take (k * 2) = ((l.take k).map It.cells).flatten ∧ ((l.map It.cells).flatten).drop (k * 2) = ((l.drop k).map It.cells).flatten := by
    intro l
    induction l with
    | nil => intro k; simp
    | cons y l ih =>
      intro k
      cases k with
      | zero => simp
      | succ k =>
        obtain ⟨h1, h2⟩ := ih k
        have e : (k + 1) * 2 = k * 2 + 1 + 1 := by omega
        rw [e]
        simp only [List.map_cons, List.flatten_cons, It.cells, List.cons_append, List.nil_append, List.take_succ_cons, List.drop_succ_cons, h1, h2]
        simp
  rw [(h l k).1, (h l k).2]
  simp
theorem own_form {w : World} {base : Nat} {e : TypeId} {k n : Nat} {v : Value} {xs : List Value} (h : w.ownsRow base e k v n xs) (hn : 0 < n) : ∃ g cap, v = .slice (some ⟨g, 0, none⟩) n cap ∧ n ≤ cap ∧ cap ≤ 9223372036854775807 := by
  rcases h.2 with ⟨_, h0⟩ | ⟨g, cap, cur, hv, _, _, h1, h2, _⟩
  · omega
  · exact ⟨g, cap, hv, h1, by unfold maxLen at h2; omega⟩
/-- a leaf with an item more -/
def Lf.plus (f : Lf) (k : Nat) (x : It) (g cap : Nat) : Lf := ⟨some ⟨g, 0, none⟩, f.n + 1, cap, f.its.take k ++ x :: f.its.drop k⟩
theorem flat_plus {fs : List Lf} {i k : Nat} {f : Lf} {x : It} (hp : Parted fs x.key i k f) (hs : Srt (flat fs)) (hat : isAt f.its x.key k = false) (g cap : Nat) : flat (fs.set i (f.plus k x g cap)) = ups (flat fs) x := by
  rw [hp.split, ups_mid hp.lo (hp.above hs hat), flat_set hp.at_]
  simp [Lf.plus, List.append_assoc]
end Go.Mb
namespace Go.Proofs.Ytkgggioldpnfaaa
open Go.RowKit Go.Mb

set_option maxHeartbeats 1000000 in
set_option maxRecDepth 100000 in
theorem put_new (base S : Nat) (tS : TypeId) (cs : Array Value) (o : Nat) (c : Int) (fs : List Lf) (lo : Option Addr) (lcap : Nat) (x : It) (w : World)
    (hT : TrAt base w cs o c fs lo lcap) (hS : Blk w S tS cs) (hs : Srt (flat fs)) (hb : (flat fs).length ≤ 999999) (hx : ItOk base w x) (hc0 : 0 ≤ c) (hc1 : c ≤ 1000000) (hB : base ≤ S)
    (htS : tS ≠ 124) (htS2 : tS ≠ 125) (htS3 : tS ≠ 92) (hne : fs ≠ []) (hl : lookK (flat fs) x.key = none) :
    Calls Try.prog 42 #[.pointer (some ⟨S, o, none⟩), .string x.key, .slice x.ao x.n x.cap] w (PutDone base S tS cs o c fs x w) := by
  have hR := hT.rd hS (by omega)
  have hmax := hR.rows.max
  have hle := hR.rows.le
  have hln := hR.few
  unfold maxLen at hmax
  have h1l : 0 < fs.length := List.length_pos_iff.2 hne
  have HT := Lib.hid hT
  have HS := Lib.hid hS
  have HR := Lib.hid hR
  have HX := Lib.hid hx
  have HSrt := Lib.hid hs
  have HLK := Lib.hid hl
  have HNE := Lib.hid hne
  have HBig := Lib.hid hb
  clear hT hS hR hx hs hl hne hb
  go_enter Try.func42, Try.ntmps42
  go_wp2_with fail
  refine (find_any w.heap.size S o lo fs.length lcap fs x.key w HR.out (Nat.le_refl _)).mono ?_
  rintro e w1 ⟨i, k, there, hsp, rfl, hb1⟩
  have HT1 := Lib.hid (HT.out.below hb1)
  have HS1 : Hid (Blk w1 S tS cs) := HS.out.chg (Chg.of_below hb1 0 []) (.inr (by simp))
  have HX1 := Lib.hid (HX.out.below hb1)
  have HB1 := Lib.hid hb1
  obtain ⟨f, hp, hat⟩ := TSpot_parted hsp HNE.out HSrt.out HT1.out.pos
  have hth : there = false := by
    cases there
    · rfl
    · obtain ⟨y, _, _, hy⟩ := hp.yes hat.symm
      rw [HLK.out] at hy
      cases hy
  subst hth
  obtain ⟨L, g, rfl, hg, c0, c1, _, c2, _⟩ := HT1.out.way HS1.out hp.at_
  have hgb := HT1.out.head (List.mem_of_getElem? hp.at_)
  obtain ⟨hlf1, hlf2, hlf3⟩ := HT1.out.leaf f (List.mem_of_getElem? hp.at_)
  rw [hg] at hlf1
  have hi : i < fs.length := (List.getElem?_eq_some_iff.1 hp.at_).1
  have hkn : k ≤ f.n := by rw [← hlf2]; exact hp.le
  have hfn : f.n ≤ 999999 := Nat.le_trans (HT1.out.leaf_le (List.mem_of_getElem? hp.at_)) HBig.out
  have d1 : w1.cell? ⟨S, o + 1, none⟩ = some (.int .i64 c) := by rw [HS1.out.cell]; exact HT.out.cell1
  have f1 : w1.frozen? ⟨S, o + 1, none⟩ = false := HS1.out.frozen _
  -- the worlds up to the insertion
  obtain ⟨W1, hW1⟩ : ∃ W, W = w1.setCell ⟨S, o + 1, none⟩ (.int .i64 (c + 1)) := ⟨_, rfl⟩
  have hch1 : Chg base [tS] w1 W1 := by rw [hW1]; exact Chg.setCell _ hB HS1.out (by simp)
  have hSb1 : Blk W1 S tS (cs.setIfInBounds (o + 1) (.int .i64 (c + 1))) := by rw [hW1]; exact HS1.out.set_ _ _
  obtain ⟨cs1, hcs1⟩ : ∃ cs1, cs1 = cs.setIfInBounds (o + 1) (.int .i64 (c + 1)) := ⟨_, rfl⟩
  rw [← hcs1] at hSb1
  have hlt1 := (Array.getElem?_eq_some_iff.1 HT.out.cell1).1
  have htr1 : TrAt base W1 cs1 o (c + 1) fs (some ⟨L, 0, none⟩) lcap :=
    (HT1.out.chg hch1 (by simp; exact fun e => htS3 e.symm) (by simp; exact fun e => htS e.symm) (by simp; exact fun e => htS2 e.symm)).cells
      (by rw [hcs1, Array.getElem?_setIfInBounds_ne (by omega)]) (by rw [hcs1, Array.getElem?_setIfInBounds_self_of_lt hlt1])
  obtain ⟨W2, hW2⟩ : ∃ W, W = W1.alloc (.cells #[.string x.key, .slice x.ao x.n x.cap] 124) := ⟨_, rfl⟩
  have hbl2 : Below W1.heap.size W1 W2 := by rw [hW2]; exact (Below.refl _ _).alloc (Nat.le_refl _) _
  have hSb2 : Blk W2 S tS cs1 := hSb1.chg (Chg.of_below hbl2 0 []) (.inr (by simp))
  have htr2 := htr1.below hbl2
  have hnb : Blk W2 W1.heap.size 124 #[.string x.key, .slice x.ao x.n x.cap] := by rw [hW2]; exact Blk.new _ _ _
  have hz1 : W1.heap.size = w1.heap.size := by rw [hW1]; simp [World.setCell]
  have hxi2 : ItOk base W2 x := (HX1.out.chg hch1 (by simp; exact fun e => htS3 e.symm)).below hbl2
  have g0 : ∀ u, (w1.setCell ⟨S, o + 1, none⟩ u).cell? ⟨S, o, none⟩ = some (.slice (some ⟨L, 0, none⟩) fs.length lcap) := fun u => by
    rw [(HS1.out.set_ (o + 1) u).cell, Array.getElem?_setIfInBounds_ne (by omega)]
    exact HT1.out.cell0
  have g1 : ∀ u, (w1.setCell ⟨S, o + 1, none⟩ u).cell? ⟨L, i, none⟩ = some (.slice (some ⟨g, 0, none⟩) f.n f.cap) := fun u => by
    obtain ⟨L', eL, _, _, curL, hbL, _⟩ := HT1.out.root (by omega)
    cases eL
    have hne : L ≠ S := hbL.ne_ HS1.out htS2.symm
    rw [World.cell?_setCell_other _ _ _ _ (fun e => hne (by have := congrArg Addr.block e; first | exact this | exact this.symm))]
    exact c1
  have HW1 := Lib.hid hW1
  have HW2 := Lib.hid hW2
  have HCH1 := Lib.hid hch1
  have HTR2 := Lib.hid htr2
  have HSB2 := Lib.hid hSb2
  have HNB := Lib.hid hnb
  have HXI2 := Lib.hid hxi2
  have HBL2 := Lib.hid hbl2
  have HP := Lib.hid hp
  have HAT := Lib.hid hat
  have HG := Lib.hid hg
  have HZ1 := Lib.hid hz1
  have HCS1 := Lib.hid hcs1
  have HF2 := Lib.hid hlf2
  clear hsp hb1 hp hat hg hgb hW1 hch1 hSb1 hcs1 htr1 hW2 hbl2 hSb2 htr2 hnb hz1 hxi2 c1 c2 hlf1 hlf2
  go_wp2_with fail
  rw [← HW1.out, ← HW2.out, ← HZ1.out]
  have hfm := List.mem_of_getElem? HP.out.at_
  obtain ⟨hown2, _, _⟩ := HTR2.out.leaf f hfm
  rw [HG.out] at hown2
  obtain ⟨g0, eg0, hgs2, hgb2, curg, hbg2, _⟩ := HTR2.out.head hfm
  rw [HG.out] at eg0
  cases eg0
  obtain ⟨L0, eL0, hLs2, hLb2, curL, hbL2, _⟩ := HTR2.out.root (by omega)
  cases eL0
  have hgL : L ≠ g := hbL2.ne_ hbg2 (by decide)
  have hSg : S ≠ g := HSB2.out.ne_ hbg2 htS
  have hSL : S ≠ L := HSB2.out.ne_ hbL2 htS2
  have hnbg : W1.heap.size ≠ g := by
    have := HZ1.out
    obtain ⟨g1, e1, h1, _⟩ := HT1.out.head hfm
    rw [HG.out] at e1
    cases e1
    omega
  have HO2 := Lib.hid hown2
  have HHN := Lib.hid hnbg
  clear hown2 hnbg
  refine (insI_any base g W1.heap.size f.n f.cap k (f.its.map It.cells).flatten x.cells W2 HO2.out (by omega) HNB.out rfl HHN.out hkn (by omega) (It.one_flat _) (fun u hu => by simp [It.cells] at hu; rcases hu with rfl | rfl <;> rfl)).mono ?_
  rintro e W3 ⟨v', rfl, hown3, hgr3, hat3⟩
  rw [flatten_ins] at hown3
  obtain ⟨g', cap', rfl, hc1', hc2'⟩ := own_form hown3 (Nat.succ_pos _)
  have hat3' : g' = g ∨ W2.heap.size ≤ g' := by
    simp [Value.ownBlock] at hat3
    omega
  have hbL3 : Blk W3 L 125 curL := (hgr3.block L hLs2 (fun e => hgL (Option.some.inj e))).trans hbL2
  have hSb3 : Blk W3 S tS cs1 := (hgr3.block S HSB2.out.lt (fun e => hSg (Option.some.inj e))).trans HSB2.out
  have hLc3 : W3.cell? ⟨L, i, none⟩ = some (.slice (some ⟨g, 0, none⟩) f.n f.cap) := by
    have h1 : W2.cell? ⟨L, i, none⟩ = some (.slice (some ⟨g, 0, none⟩) f.n f.cap) := by
      rw [HTR2.out.rows.cellAt i (by omega), Lf.flat_eq, List.getElem?_map, HP.out.at_, ← HG.out]
      rfl
    exact hgr3.cell h1 (fun e => hgL (Option.some.inj e))
  have hLf3 : W3.frozen? ⟨L, i, none⟩ = false := hbL3.frozen _
  have hSc3 : W3.cell? ⟨S, o, none⟩ = some (.slice (some ⟨L, 0, none⟩) fs.length lcap) := by rw [hSb3.cell]; exact HTR2.out.cell0
  have hits3 : ∀ y ∈ (f.plus k x g' cap').its, ItOk base W3 y := by
    intro y hy
    rcases List.mem_append.1 hy with h | h
    · exact chain_grown (HTR2.out.its f hfm y (List.mem_of_mem_take h)) hgr3 hbg2 (by decide)
    · rcases List.mem_cons.1 h with rfl | h
      · exact chain_grown HXI2.out hgr3 hbg2 (by decide)
      · exact chain_grown (HTR2.out.its f hfm y (List.mem_of_mem_drop h)) hgr3 hbg2 (by decide)
  have hlen3 : (f.plus k x g' cap').its.length = f.n + 1 := by
    simp only [Lf.plus, List.length_append, List.length_take, List.length_cons, List.length_drop, HF2.out]
    omega
  have htr4 : TrAt base (W3.setCell ⟨L, i, none⟩ (.slice (some ⟨g', 0, none⟩) (f.n + 1) cap')) cs1 o (c + 1) (fs.set i (f.plus k x g' cap')) (some ⟨L, 0, none⟩) lcap :=
    HTR2.out.swap (f' := f.plus k x g' cap') HP.out.at_ HG.out hgr3 hown3 hlen3 (Nat.succ_pos _) hits3 rfl hat3' rfl
  have hch3 : Chg base [tS, 125, 124] w (W3.setCell ⟨L, i, none⟩ (.slice (some ⟨g', 0, none⟩) (f.n + 1) cap')) :=
    (Chg.of_below HB1.out _ _).trans ((HCH1.out.mono (Nat.le_refl _) (by simp)).trans ((Chg.of_below HBL2.out _ _).trans ((own_grown HO2.out hgr3 (Nat.le_refl _) (by simp)).trans (Chg.setCell _ hLb2 hbL3 (by simp)))))
  have hSb4 : Blk (W3.setCell ⟨L, i, none⟩ (.slice (some ⟨g', 0, none⟩) (f.n + 1) cap')) S tS cs1 := hSb3.far hSL _
  have hcs : ∀ j, j ≠ o → j ≠ o + 1 → cs1[j]? = cs[j]? := fun j h0 h1 => by rw [HCS1.out, Array.getElem?_setIfInBounds_ne (by omega)]
  have HTR4 := Lib.hid htr4
  have HCH3 := Lib.hid hch3
  have HSB4 := Lib.hid hSb4
  have HCS := Lib.hid hcs
  have HBL3 := Lib.hid hbL3
  have HL3 := Lib.hid hlen3
  have hg's : g' < W3.heap.size := by
    rcases hown3.2 with ⟨h, _⟩ | ⟨q, cq, cu, hv, _, hq, _⟩
    · cases h
    · cases hv; exact (Array.getElem?_eq_some_iff.1 hq).1
  have HOWN3 := Lib.hid hown3
  clear hfm hown3 hgr3 hat3 hat3' hbL3 hSb3 hits3 htr4 hch3 hSb4 hcs hbg2 hbL2 hlen3
  by_cases h8 : f.n + 1 ≤ 8
  · have d8 : ((f.n : Int) + 1) ≤ 8 := by omega
    go_wp2_with fail
    go_ret
    exact ⟨false, cs1, _, _, _, rfl, HSB4.out, HCS.out, HTR4.out, flat_plus HP.out HSrt.out HAT.out.symm g' cap', by rw [HLK.out]; rfl, HCH3.out⟩
  · have d8 : (8 : Int) < (f.n : Int) + 1 := by omega
    go_wp2_with fail
    obtain ⟨fp, hfp⟩ : ∃ fp, fp = f.plus k x g' cap' := ⟨_, rfl⟩
    obtain ⟨W4, hW4⟩ : ∃ W, W = W3.setCell ⟨L, i, none⟩ (.slice (some ⟨g', 0, none⟩) (f.n + 1) cap') := ⟨_, rfl⟩
    have htr4 := HTR4.out
    have hSb4 := HSB4.out
    have hch4 := HCH3.out
    rw [← hW4] at htr4 hSb4 hch4
    rw [← hfp] at htr4
    rw [← hW4]
    have hfi : (fs.set i fp)[i]? = some fp := by rw [List.getElem?_set_self hi]
    have hfpm := List.mem_of_getElem? hfi
    obtain ⟨hr4, hl4, _⟩ := htr4.leaf fp hfpm
    have hfpe : fp.ao = some ⟨g', 0, none⟩ ∧ fp.n = f.n + 1 ∧ fp.cap = cap' := by rw [hfp]; exact ⟨rfl, rfl, rfl⟩
    obtain ⟨ef1, ef2, ef3⟩ := hfpe
    obtain ⟨ao4, cap4, ev4, hrd4, _⟩ := Rd.of_own hr4 (It.wide fp.its) (by simpa using hl4)
    injection ev4 with e1 _ e3
    rw [← e1, ← e3, ef1, ef2, ef3] at hrd4
    have hflat := flat_plus HP.out HSrt.out HAT.out.symm g' cap'
    rw [← hfp] at hflat
    obtain ⟨its, hits⟩ : ∃ its, its = fp.its := ⟨_, rfl⟩
    rw [← hits] at hrd4
    have HRD4 := Lib.hid hrd4
    have HTR4' := Lib.hid htr4
    have HSB4' := Lib.hid hSb4
    have HCH4 := Lib.hid hch4
    have HW4 := Lib.hid hW4
    have HFI := Lib.hid hfi
    have HFL := Lib.hid hflat
    have HEF : Hid (fp.ao = some ⟨g', 0, none⟩ ∧ fp.n = f.n + 1 ∧ fp.cap = cap') := ⟨ef1, ef2, ef3⟩
    have HIT := Lib.hid hits
    have HLEN : Hid (its.length = f.n + 1) := by show its.length = f.n + 1; rw [hits, hl4, ef2]
    clear hrd4 htr4 hSb4 hch4 hW4 hfi hflat ef1 ef2 ef3 hits hfp hr4 hl4 e1 e3 hfpm HTR4 HSB4 HCH3 HBL3 hLc3 hLf3 hSc3 HOWN3
    refine (halves_any W4.heap.size g' 0 (f.n + 1) cap' (its.map It.cells) W4 HRD4.out (Nat.le_refl _) (by omega) (by omega) (It.one its)).mono ?_
    rintro e W5 ⟨va, vb, rfl, hoa, hob, hab, hbl5⟩
    obtain ⟨m, hm⟩ : ∃ m, m = (f.n + 1) / 2 := ⟨_, rfl⟩
    rw [← hm, ← List.map_take] at hoa
    rw [← hm, ← List.map_drop] at hob
    have hm0 : 0 < m := by omega
    have hmn : m < f.n + 1 := by omega
    obtain ⟨ga, capa, rfl, _, _⟩ := own_form hoa hm0
    obtain ⟨gb, capb, rfl, _, _⟩ := own_form hob (by omega)
    have hga := (hoa.lt ga rfl)
    have hgb := (hob.lt gb rfl)
    have hgab : ga ≠ gb := fun e => hab ga rfl (by rw [e]; rfl)
    have htr5 := HTR4'.out.below hbl5
    obtain ⟨L5, g5, eL5, _, s0, s1, _, s2, _⟩ := htr5.way (HSB4'.out.chg (Chg.of_below hbl5 0 []) (.inr (by simp))) HFI.out
    cases eL5
    rw [List.length_set] at s0
    obtain ⟨fa, hfa⟩ : ∃ fa : Lf, fa = ⟨some ⟨ga, 0, none⟩, m, capa, its.take m⟩ := ⟨_, rfl⟩
    obtain ⟨fb, hfb⟩ : ∃ fb : Lf, fb = ⟨some ⟨gb, 0, none⟩, f.n + 1 - m, capb, its.drop m⟩ := ⟨_, rfl⟩
    have hitok4 : ∀ y ∈ its, ItOk base W4 y := by rw [HIT.out]; exact HTR4'.out.its fp (List.mem_of_getElem? HFI.out)
    have hb4 : base ≤ W4.heap.size := by have := HSB4'.out.lt; omega
    have htr6 : TrAt base (W5.setCell ⟨L, i, none⟩ (.slice (some ⟨ga, 0, none⟩) m capa)) cs1 o (c + 1) ((fs.set i fp).set i fa) (some ⟨L, 0, none⟩) lcap := by
      have := HTR4'.out.swap (f' := fa) (w' := W5) HFI.out HEF.out.1 ⟨hbl5.os, hbl5.tape, hbl5.output, hbl5.size, fun q hq _ => hbl5.block q hq⟩
        (by rw [hfa]; exact own_mono hoa hb4) (by rw [hfa]; simp [HLEN.out]; omega) (by rw [hfa]; exact hm0) (fun y hy => by rw [hfa] at hy; exact (hitok4 y (List.mem_of_mem_take hy)).below hbl5) (g' := ga) (by rw [hfa]) (.inr hga.1) rfl
      rw [hfa] at this ⊢
      exact this
    obtain ⟨W6, hW6⟩ : ∃ W, W = W5.setCell ⟨L, i, none⟩ (.slice (some ⟨ga, 0, none⟩) m capa) := ⟨_, rfl⟩
    rw [← hW6] at htr6
    rw [List.set_set] at htr6
    obtain ⟨L1, eL1, hLs5, hLb5, curL5, hbL5, _⟩ := htr5.root (by rw [List.length_set]; omega)
    cases eL1
    have hch6 : Chg base [125] W5 W6 := by rw [hW6]; exact Chg.setCell _ hLb5 hbL5 (by simp)
    have hSb5 : Blk W5 S tS cs1 := HSB4'.out.chg (Chg.of_below hbl5 0 []) (.inr (by simp))
    have hSb6 : Blk W6 S tS cs1 := hSb5.chg hch6 (.inr (by simp; exact htS2))
    have hob6 := own_chg (own_mono hob hb4) hch6 (by decide)
    have hitok6 : ∀ y ∈ its, ItOk base W6 y := fun y hy => ((hitok4 y hy).below hbl5).chg hch6 (by decide)
    have s3 : W6.cell? ⟨S, o, none⟩ = some (.slice (some ⟨L, 0, none⟩) fs.length lcap) := by rw [hSb6.cell]; have := htr6.cell0; rw [List.length_set] at this; exact this
    have hz6 : W6.heap.size = W5.heap.size := by rw [hW6]; simp [World.setCell]
    have HTR6 := Lib.hid htr6
    have HSB6 := Lib.hid hSb6
    have HOB6 := Lib.hid hob6
    have HIT6 := Lib.hid hitok6
    have HCH6 := Lib.hid hch6
    have HBL5 := Lib.hid hbl5
    have HW6 := Lib.hid hW6
    have HFA := Lib.hid hfa
    have HFB := Lib.hid hfb
    have HM := Lib.hid hm
    have HZ6 := Lib.hid hz6
    have HGA := Lib.hid hga
    have HGB := Lib.hid hgb
    have HGAB := Lib.hid hgab
    clear hoa hob hab htr5 hitok4 htr6 hch6 hSb5 hSb6 hob6 hitok6 hbL5 hbl5 hW6 hfa hfb hm hz6 hga hgb hgab
    go_wp2_with fail
    rw [← HW6.out]
    all_goals go_show
    have hi1 : ((i : Int) + 1) = ((i + 1 : Nat) : Int) := by omega
    rw [← HZ6.out, hi1]
    obtain ⟨W7, hW7⟩ : ∃ W, W = W6.alloc (Obj.cells #[Value.slice (some ⟨gb, 0, none⟩) (f.n + 1 - m) capb] 125) := ⟨_, rfl⟩
    rw [← hW7]
    have hbl7 : Below W6.heap.size W6 W7 := by rw [hW7]; exact (Below.refl _ _).alloc (Nat.le_refl _) _
    have hnb7 : Blk W7 W6.heap.size 125 #[.slice (some ⟨gb, 0, none⟩) (f.n + 1 - m) capb] := by rw [hW7]; exact Blk.new _ _ _
    have hb6 : base ≤ W6.heap.size := by have := HBL5.out.size; have := HZ6.out; omega
    have htr7 := HTR6.out.below hbl7
    have hSb7 : Blk W7 S tS cs1 := HSB6.out.chg (Chg.of_below hbl7 0 []) (.inr (by simp))
    have hrows7 := htr7.rows
    rw [List.length_set] at hrows7
    obtain ⟨L7, eL7, hLs7, _, curL7, hbL7, _⟩ := htr7.root (by rw [List.length_set]; omega)
    cases eL7
    have hne7 : W6.heap.size ≠ L := by
      obtain ⟨L8, eL8, hLs8, _⟩ := HTR6.out.root (by rw [List.length_set]; omega)
      cases eL8
      omega
    have hlfs : (fs.set i fa).length = fs.length := List.length_set ..
    have HSB7 := Lib.hid hSb7
    have HBL7 := Lib.hid hbl7
    have HTR7 := Lib.hid htr7
    have HBLL7 := Lib.hid hbL7
    have HR7 := Lib.hid hrows7
    have HW7 := Lib.hid hW7
    have HNE7 := Lib.hid hne7
    clear hSb7 hbl7 htr7 hbL7 hrows7 hW7 hne7
    refine (insL_any base L W6.heap.size fs.length lcap (i + 1) ((fs.set i fa).map Lf.cells).flatten [.slice (some ⟨gb, 0, none⟩) (f.n + 1 - m) capb] W7 HR7.out (by have := HBL7.out.size; omega) hnb7 rfl HNE7.out (by omega) (by omega) (Lf.one_flat _) (fun u hu => by simp at hu; rw [hu]; rfl)).mono ?_
    rintro e W8 ⟨v8, rfl, hown8, hgr8, hat8⟩
    obtain ⟨L9, lc9, rfl, _, _⟩ := own_form hown8 (Nat.succ_pos _)
    have hSb8 : Blk W8 S tS cs1 := (hgr8.block S HSB7.out.lt (fun e => hSL (Option.some.inj e))).trans HSB7.out
    have s8 : W8.cell? ⟨S, o, none⟩ = some (.slice (some ⟨L, 0, none⟩) fs.length lcap) := by rw [hSb8.cell]; have := HTR6.out.cell0; rw [List.length_set] at this; exact this
    have f8 : W8.frozen? ⟨S, o, none⟩ = false := hSb8.frozen _
    dsimp only
    go_wp2_with fail
    go_ret
    have hmemS : ∀ f2 ∈ fs.set i fa, f2.ao ≠ some ⟨gb, 0, none⟩ := by
      intro f2 hf2 e2
      obtain ⟨j, hj⟩ := List.getElem?_of_mem hf2
      by_cases hji : i = j
      · subst hji
        rw [List.getElem?_set_self hi] at hj
        cases hj
        rw [HFA.out] at e2
        exact HGAB.out (by injection e2 with e2; exact congrArg Addr.block e2)
      · rw [List.getElem?_set_ne hji] at hj
        obtain ⟨q, eq, hq, _⟩ := HTR4'.out.head (f := f2) (List.mem_of_getElem? (i := j) (by rw [List.getElem?_set_ne hji]; exact hj))
        rw [e2] at eq
        cases eq
        have := HGB.out.1
        omega
    have hfbits : ∀ y ∈ fb.its, ItOk base W7 y := by rw [HFB.out]; exact fun y hy => (HIT6.out y (List.mem_of_mem_drop hy)).below HBL7.out
    have hfbrow : W7.ownsRow base 124 2 (.slice fb.ao fb.n fb.cap) fb.n (fb.its.map It.cells).flatten := by rw [HFB.out]; exact own_below HOB6.out HBL7.out
    have hlt : o < cs1.size := (Array.getElem?_eq_some_iff.1 HTR6.out.cell0).1
    have hlt1 : o + 1 < cs1.size := (Array.getElem?_eq_some_iff.1 HTR6.out.cell1).1
    have htr8 := TrAt.more HTR7.out (i := i + 1) (by rw [hlfs]; omega) (f' := fb) (g' := gb) (L := L) rfl hgr8 (lo' := some ⟨L9, 0, none⟩) (lcap' := lc9)
      (cs' := cs1.setIfInBounds o (.slice (some ⟨L9, 0, none⟩) (fs.length + 1) lc9)) HBLL7.out
      (by rw [hlfs, HFB.out]; exact hown8) hfbrow (by rw [HFB.out]; simp [HLEN.out]) (by rw [HFB.out]; show 0 < f.n + 1 - m; omega) hfbits (by rw [HFB.out]) hmemS
      (by rw [hlfs, Array.getElem?_setIfInBounds_self_of_lt hlt]) (by rw [Array.getElem?_setIfInBounds_ne (by omega)]; exact HTR6.out.cell1)
    have hSc : Chg base [tS] W8 (W8.setCell ⟨S, o, none⟩ (.slice (some ⟨L9, 0, none⟩) (fs.length + 1) lc9)) := Chg.setCell _ hB hSb8 (by simp)
    have hh : TrAt base W4 cs1 o (c + 1) (fs.set i fp) (some ⟨L, 0, none⟩) lcap := HTR4'.out
    have hflat : flat ((fs.set i fa).take (i + 1) ++ fb :: (fs.set i fa).drop (i + 1)) = ups (flat fs) x := by
      rw [← HFL.out]
      have e1 : (fs.set i fa).take (i + 1) = fs.take i ++ [fa] := by
        rw [List.take_add_one, List.getElem?_set_self hi, List.take_set_of_le (Nat.le_refl _)]; rfl
      have e2 : (fs.set i fa).drop (i + 1) = fs.drop (i + 1) := by rw [List.drop_set_of_lt (by omega)]
      have e3 : fs.set i fp = fs.take i ++ fp :: fs.drop (i + 1) := List.set_eq_take_append_cons_drop .. |>.trans (by rw [if_pos hi])
      have e4 : fa.its ++ fb.its = fp.its := by rw [HFA.out, HFB.out, ← HIT.out]; exact List.take_append_drop ..
      rw [e1, e2, e3]
      simp only [flat, List.flatMap_append, List.flatMap_cons, List.flatMap_nil, List.append_nil, ← e4, List.append_assoc]
    have hC5 : Chg base [tS, 125, 124] w W6 := HCH4.out.trans ((Chg.of_below HBL5.out _ _).trans (HCH6.out.mono (Nat.le_refl _) (by simp)))
    have hC8 : Chg base [tS, 125, 124] W6 W8 := (Chg.of_below HBL7.out _ _).trans (own_grown HR7.out hgr8 (Nat.le_refl _) (by simp))
    refine ⟨false, _, _, _, _, rfl, hSb8.set_ o _, fun j h0 h1 => ?_, htr8.chg hSc ?_ ?_ ?_, hflat, by rw [HLK.out]; rfl, (hC5.trans hC8).trans (hSc.mono (Nat.le_refl _) (by simp))⟩
    · rw [Array.getElem?_setIfInBounds_ne (by omega)]
      exact HCS.out j h0 h1
    · simp; exact fun e => htS3 e.symm
    · simp; exact fun e => htS e.symm
    · simp; exact fun e => htS2 e.symm

/-- PUT, all ways: the item with this key is put into the tree -/
theorem put_any (base S : Nat) (tS : TypeId) (cs : Array Value) (o : Nat) (c : Int) (fs : List Lf) (lo : Option Addr) (lcap : Nat) (x : It) (w : World)
    (hT : TrAt base w cs o c fs lo lcap) (hS : Blk w S tS cs) (hs : Srt (flat fs)) (hb : (flat fs).length ≤ 999999) (hx : ItOk base w x) (hc0 : 0 ≤ c) (hc1 : c ≤ 1000000) (hB : base ≤ S)
    (htS : tS ≠ 124) (htS2 : tS ≠ 125) (htS3 : tS ≠ 92) :
    Calls Try.prog 42 #[.pointer (some ⟨S, o, none⟩), .string x.key, .slice x.ao x.n x.cap] w (PutDone base S tS cs o c fs x w) := by
  by_cases hne : fs = []
  · subst hne
    exact put_empty base S tS cs o c lo lcap x w hT hS hc0 hc1 hx hB htS htS2 htS3
  · cases hl : lookK (flat fs) x.key with
    | none => exact put_new base S tS cs o c fs lo lcap x w hT hS hs hb hx hc0 hc1 hB htS htS2 htS3 hne hl
    | some y => exact put_there base S tS cs o c fs lo lcap x w hT hS hs (by omega) hx (by rw [hl]; rfl) htS

end Go.Proofs.Ytkgggioldpnfaaa
