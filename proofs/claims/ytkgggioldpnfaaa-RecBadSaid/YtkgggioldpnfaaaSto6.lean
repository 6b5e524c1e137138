/-
  (*Store).Commit of a commit that follows
-/
import Derived.Test.YtkgggioldpnfaaaSto5
import Derived.Test.YtkgggioldpnfaaaCh
import Derived.Deep.RegionHeld3
import Derived.Deep.DeepCutAuto
namespace Go.Proofs.Ytkgggioldpnfaaa
open Go.RowKit Go.Mb

set_option maxHeartbeats 2000000 in
set_option maxRecDepth 100000 in
theorem com_good (B : Nat) (base S : Nat) (low : Int) (hist : List Com) (its : List It) (N : Nat) (sq tm : Int) (ao : Option Addr) (n cap : Nat) (l : List Wr) (w : World) (hst : StoreAt base S w low hist its N) (hN : N ≤ 900000)
    (h : RdW B w ao n cap l) (hB : B ≤ w.heap.size) (hok : (decide (sq = low + hist.length + 1) && decide (sq ≤ 1099511627776) && atB tm) = true) :
    Calls Try.prog 25 #[.pointer (some ⟨S, 0, none⟩), .agg #[.int .i64 sq, .int .i64 tm, .slice ao n cap]] w (ComSt base S low hist its N sq tm l w) := by
  have hcomb : comB low hist sq tm l = (rightB l && lastOk hist tm) := by unfold comB; rw [hok]; simp
  obtain ⟨W0, hW0⟩ : ∃ W, W = w.alloc (Obj.cells #[.int .i64 sq, .int .i64 tm, .slice ao n cap] 28) := ⟨_, rfl⟩
  obtain ⟨g, hg⟩ : ∃ g, g = w.heap.size := ⟨_, rfl⟩
  have hblk : Blk W0 g 28 #[.int .i64 sq, .int .i64 tm, .slice ao n cap] := by rw [hW0, hg]; exact Blk.new _ _ _
  have hb0 : Below w.heap.size w W0 := by rw [hW0]; exact (Below.refl _ _).alloc (Nat.le_refl _) _
  have c0 : W0.cell? ⟨g, 0, none⟩ = some (.int .i64 sq) := hblk.cell 0
  have c1 : W0.cell? ⟨g, 1, none⟩ = some (.int .i64 tm) := hblk.cell 1
  have c2 : W0.cell? ⟨g, 2, none⟩ = some (.slice ao n cap) := hblk.cell 2
  have hlow : 0 ≤ low ∧ low ≤ 1099511627776 ∧ hist.length ≤ N := by obtain ⟨_, _, _, _, _, h⟩ := hst; exact ⟨h.low0.1, h.low0.2, h.few.2.1⟩
  have hw1 : IntKind.i64.wrap (low + (hist.length : Int) + 1) = low + hist.length + 1 := by rw [IntKind.wrap_i64]; omega
  have hst0 : StoreAt base S W0 low hist its N := hst.below hb0
  have hsz : w.heap.size ≤ W0.heap.size := hb0.size
  have HST : Hid (StoreAt base S W0.drew low hist its N) := hst0.chg (Chg.drew 0 [] _) (by decide) (by decide) (by decide) (by decide) (by decide) (by decide)
  have HRD : Hid (RdW B W0 ao n cap l) := h.below (hb0.mono hB)
  have HBK : Hid (Blk W0 g 28 #[.int .i64 sq, .int .i64 tm, .slice ao n cap]) := hblk
  have HB0 : Hid (Below w.heap.size w W0) := hb0
  have HST0 : Hid (StoreAt base S W0 low hist its N) := hst0
  have HB1 : Hid (Below W0.drew.heap.size W0.drew W0.drew) := Below.refl _ _
  have HCB := Lib.hid hcomb
  have HW := Lib.hid hW0
  have HGG := Lib.hid hg
  simp only [atB, Bool.and_eq_true, decide_eq_true_eq] at hok
  obtain ⟨⟨e1, e2⟩, e3, e4⟩ := hok
  have d1 : (sq != low + (hist.length : Int) + 1) = false := by simpa using e1
  have d2 : decide (1099511627776 < sq) = false := by simpa using e2
  have d3 : decide (tm < 0) = false := by simpa using e3
  have d4 : decide (1099511627776 < tm) = false := by simpa using e4
  have hBW : B ≤ W0.heap.size := by omega
  have HE1 := Lib.hid e1
  clear e1
  have HSTW := Lib.hid hst
  have hbw : base ≤ w.heap.size := by
    have h1 := hst.lt
    obtain ⟨_, _, _, _, _, h2⟩ := hst
    have := h2.hb
    omega
  clear hst hst0 hblk hW0 hg h hb0 hcomb hsz
  go_enter Try.func25, Try.ntmps25
  go_wp2_with fail
  rw [← HW.out, ← HGG.out]
  go_region_held3 (fun w' => w'.cell? ⟨g, 0, none⟩ = some (.int .i64 sq) ∧ w'.cell? ⟨g, 1, none⟩ = some (.int .i64 tm) ∧ w'.cell? ⟨g, 2, none⟩ = some (.slice ao n cap)) (go_keep)
    ((first
      | (go_at_call 26; refine (stLast_any base S low hist its N _ (by exact HST.out) (by omega)).mono ?_; rintro e wa ⟨rfl, q, rfl⟩)
      | (go_at_call 27; refine (right_any B ao n cap l _ (by exact HRD.out.drewN _) (by exact hBW)).mono ?_; rintro e wb ⟨rfl, hb1⟩; have hb2 := (Chg.drewN W0.heap.size [] W0 _).nil_below.trans hb1; have KB := Lib.hid (HBK.out.chg (Chg.of_below hb2 0 []) (.inr (by simp))); have cb0 : wb.cell? ⟨g, 0, none⟩ = some (.int .i64 sq) := KB.out.cell 0; have cb1 : wb.cell? ⟨g, 1, none⟩ = some (.int .i64 tm) := KB.out.cell 1; have cb2 : wb.cell? ⟨g, 2, none⟩ = some (.slice ao n cap) := KB.out.cell 2; have HB2 := Lib.hid hb2; clear hb1 hb2)))
  have HB3 : Hid (Below w.heap.size w wb) := HB0.out.trans (HB2.out.mono HB0.out.size)
  have HSTB : Hid (StoreAt base S wb low hist its N) := HST0.out.below HB2.out
  have HRDB : Hid (RdW B wb ao n cap l) := HRD.out.below (HB2.out.mono hBW)
  have hBb : B ≤ wb.heap.size := Nat.le_trans hBW HB2.out.size
  have hszb : w.heap.size ≤ wb.heap.size := HB3.out.size
  clear HST HST0 HRD HBK HB2 HB1 HB0 HW c0 c1 c2 hB hBW
  cases hr : rightB l with
  | false =>
    go_wp2_with fail
    go_ret
    exact ComSt.no (by rw [HCB.out, hr]; rfl) rfl HB3.out
  | true =>
    have HRT := Lib.hid hr
    have hbq : ∀ q, Below w.heap.size w (wb.drewN q) := fun q => HB3.out.trans ((Chg.drewN w.heap.size [] wb q).below hszb)
    have HBQ := Lib.hid hbq
    obtain ⟨_, hao, hcap, c3⟩ := HSTB.out.cells
    have hl4 : (hist.length = 0) ∨ ∃ p hb hoff, hist[hist.length - 1]? = some p ∧ hao = some ⟨hb, hoff, none⟩ ∧ wb.cell? ⟨hb, hoff + (hist.length - 1) * 3 + 1, none⟩ = some (.int .i64 p.tm) := by
      by_cases hz : hist.length = 0
      · exact .inl hz
      · obtain ⟨p, hp⟩ : ∃ p, hist[hist.length - 1]? = some p := ⟨hist[hist.length - 1]'(by omega), List.getElem?_eq_getElem _⟩
        obtain ⟨fs, lo, lcap, hao', hcap', hsa⟩ := HSTB.out
        have e := hsa.blk.cell 3
        rw [c3] at e
        cases e
        obtain ⟨ao2, cap2, e2, hrd, _⟩ := Rd.of_own hsa.hrow (Com.wide hist) (by simp)
        cases e2
        obtain ⟨hb, hoff, e3, _, hc⟩ := hrd.cells (by omega)
        subst e3
        exact .inr ⟨p, hb, hoff, hp, rfl, hc _ p.cells (by rw [List.getElem?_map, hp]; rfl) 1 _ rfl⟩
    clear hbq
    rcases hl4 with hz | ⟨p, hb, hoff, hp, rfl, hpc⟩
    · have d5 : decide (0 < hist.length) = false := by rw [hz]; rfl
      have HOK : Hid (comB low hist sq tm l = true) := by
        show comB low hist sq tm l = true
        rw [HCB.out, HRT.out]
        obtain rfl := List.eq_nil_of_length_eq_zero hz
        rfl
      clear hz
      go_wp2_with fail
      go_quiet (fail)
      go_wp2_with fail
      have hn200 : l.length ≤ 200 := by have := HRT.out; unfold rightB at this; simp only [Bool.and_eq_true, decide_eq_true_eq] at this; exact this.1
      have hln : l.length = n := by have := HRDB.out.len; simpa using this
      refine (cloneW_any B ao n cap (l.map Wr.cells) _ (HRDB.out.drewN _) hBb (by omega) (fun x hx u hu => by obtain ⟨y, _, rfl⟩ := List.mem_map.1 hx; simp [Wr.cells] at hu; rcases hu with rfl | rfl | rfl <;> rfl)).mono ?_
      rintro e wc ⟨cv, rfl, hown, hbc⟩
      obtain ⟨cao, ccap, rfl, hcrd, _⟩ := Rd.of_own hown (fun x hx => by obtain ⟨y, _, rfl⟩ := List.mem_map.1 hx; rfl) (by simpa using hln)
      have hbc' : Below wb.heap.size wb wc := (Chg.drewN wb.heap.size [] wb _).nil_below.trans hbc
      have KC : Blk wc g 28 #[.int .i64 sq, .int .i64 tm, .slice ao n cap] := KB.out.chg (Chg.of_below hbc' 0 []) (.inr (by simp))
      have f2 : wc.frozen? ⟨g, 2, none⟩ = false := KC.frozen 2
      have e2' : wc.cell? ⟨g, 2, none⟩ = some (.slice ao n cap) := KC.cell 2
      obtain ⟨W5, hW5⟩ : ∃ W, W = wc.setCell ⟨g, 2, none⟩ (.slice cao n ccap) := ⟨_, rfl⟩
      have KW : Blk W5 g 28 #[.int .i64 sq, .int .i64 tm, .slice cao n ccap] := by rw [hW5]; exact KC.set_ 2 _
      have hsc : ∀ B', B' ≤ g → Chg B' [28] wc (wc.setCell ⟨g, 2, none⟩ (.slice cao n ccap)) := fun B' h => Chg.setCell (p := ⟨g, 2, none⟩) _ h KC (by simp)
      have hb5 : Below w.heap.size w W5 := by
        rw [hW5]
        exact (HB3.out.trans (hbc'.mono hszb)).trans ((hsc w.heap.size (by have := HGG.out; omega)).below (by have := hbc'.size; omega))
      have hcom5 : ComOk base W5 ⟨sq, tm, cao, n, ccap, l⟩ := by
        rw [hW5]
        exact ⟨own_chg (own_mono hown (by show base ≤ wb.heap.size; omega)) (hsc 0 (Nat.zero_le _)) (by decide), hln, by show n ≤ 200; omega⟩
      have k0 : W5.cell? ⟨g, 0, none⟩ = some (.int .i64 sq) := KW.cell 0
      have k1 : W5.cell? ⟨g, 1, none⟩ = some (.int .i64 tm) := KW.cell 1
      have k2 : W5.cell? ⟨g, 2, none⟩ = some (.slice cao n ccap) := KW.cell 2
      have HKW := Lib.hid KW
      have HC5 := Lib.hid hcom5
      have HB5 := Lib.hid hb5
      have HW5 := Lib.hid hW5
      have HLN := Lib.hid hln
      clear hsc hown hbc hbc' hcrd KC KW hcom5 hb5 hW5 HRDB c3 hln
      dsimp only
      go_upto_region 6 with fail
      rw [← HW5.out]
      obtain ⟨fs, lo, lcap, hao5, hcap5, hsaw⟩ := HSTW.out
      have hne := hsaw.row_lt (g := g) (by rw [HGG.out]; exact Nat.le_refl _)
      have hsa := hsaw.below HB5.out (Nat.le_refl N)
      have HNE := Lib.hid hne
      clear hsaw hne
      have s3 : W5.cell? ⟨S, 3, none⟩ = some (.slice hao5 hist.length hcap5) := by rw [hsa.blk.cell]; rfl
      have hal : ∀ o, Below W5.heap.size W5 (W5.drew.alloc o) := fun o => (Below.drew (Below.refl _ W5)).alloc (Nat.le_refl _) o
      have hown6 : ∀ o, (W5.drew.alloc o).ownsRow base 28 3 (.slice hao5 hist.length hcap5) hist.length (hist.map Com.cells).flatten := fun o => own_below hsa.hrow (hal o)
      have hnw : ∀ cs : List Value, ∀ j u, cs[j]? = some u → (W5.drew.alloc (.cells cs.toArray 28)).cell? ((⟨W5.heap.size, 0, none⟩ : Addr).add j) = some u := fun cs j u hj => by
        rw [Addr.add_lit, Nat.zero_add]
        have := (Blk.new W5.drew 28 cs.toArray).cell j
        simp only [World.drew] at this
        exact this.trans (by simpa using hj)
      have hgrS : ∀ o w', (W5.drew.alloc o).grownBy w' (Value.slice hao5 hist.length hcap5).ownBlock → Blk w' S 87 #[.slice lo fs.length lcap, .int .i64 its.length, .int .i64 low, .slice hao5 hist.length hcap5] := fun o w' hg =>
        (hg.block S (by have := hsa.blk.lt; simp; omega) (fun e => hsa.row_ne e.symm)).trans (hsa.blk.chg (Chg.of_below (hal o) 0 []) (.inr (by simp)))
      have sA : ∀ o, (W5.alloc o).cell? ⟨S, 3, none⟩ = some (.slice hao5 hist.length hcap5) := fun o => (World.cell?_alloc_lt _ _ _ hsa.blk.lt).trans s3
      have HOWN6 := Lib.hid hown6
      have HNW := Lib.hid hnw
      have HGRS := Lib.hid hgrS
      have HSA := Lib.hid hsa
      have HAL := Lib.hid hal
      have hbw5 : base ≤ W5.heap.size := Nat.le_trans hbw HB5.out.size
      clear hown6 hnw hgrS hsa hal
      obtain ⟨i0, hi0, hz0, hz1, hz2⟩ := info_parts Try.info28
      go_cut [11] (fun _ wx => Hid (StoreAt base S wx low (hist ++ [⟨sq, tm, cao, n, ccap, l⟩]) its (N + 200)) ∧ Hid (Blk wx g 28 #[.int .i64 sq, .int .i64 tm, .slice cao n ccap]) ∧ Hid (Chg base [87, 28] w wx))
      case first =>
        go_region_law (refine step_append_own rfl (.tmp 76) (.tmp 78) 23 rfl base 28 i0 _ 3 40 Try.underlying23 hi0 hz0 hz1 hz2 rfl (by decide) (.slice hao5 hist.length hcap5) hist.length (hist.map Com.cells).flatten (by simp [Act.eval]) (by exact HOWN6.out _) ⟨W5.heap.size, 0, none⟩ 1 1 [.int .i64 sq, .int .i64 tm, .slice cao n ccap] (by simp [Act.eval]) rfl (by exact HNW.out _) (by simp [Value.oneCell']) (by unfold maxLen; omega) (by omega) (by simp; omega) ?_; intro v' w' hown hgrow; obtain ⟨hg6, hcap6, rfl, hc6, _⟩ := own_form hown (Nat.succ_pos _); have q3 : w'.cell? ⟨S, 3, none⟩ = some (.slice hao5 hist.length hcap5) := (HGRS.out _ _ hgrow).cell 3; have q4 : w'.frozen? ⟨S, 3, none⟩ = false := (HGRS.out _ _ hgrow).frozen 3; have HOWN := Lib.hid hown; have HGROW := Lib.hid hgrow; clear hown hgrow)
        all_goals
          go_wp2_with fail
          go_meet
          have hs6 := HSA.out.below (N' := N + 200) (HAL.out (.cells #[.int .i64 sq, .int .i64 tm, .slice cao n ccap] 28)) (by omega)
          have hne := HNE.out
          have hch1 : Chg base [28] (W5.drew.alloc (.cells #[.int .i64 sq, .int .i64 tm, .slice cao n ccap] 28)) w' := own_grown hs6.hrow HGROW.out (Nat.le_refl _) (by simp)
          have hbS : Blk w' S 87 #[.slice lo fs.length lcap, .int .i64 its.length, .int .i64 low, .slice hao5 hist.length hcap5] := HGRS.out _ _ HGROW.out
          have hch2 : Chg base [87] w' (w'.setCell ⟨S, 3, none⟩ (.slice (some ⟨hg6, 0, none⟩) (hist.length + 1) hcap6)) := Chg.setCell (p := ⟨S, 3, none⟩) _ hs6.hb hbS (by simp)
          have hKg : Blk w' g 28 #[.int .i64 sq, .int .i64 tm, .slice cao n ccap] := (HGROW.out.block g (by have := HKW.out.lt; simp; omega) (fun e => hne e.symm)).trans (HKW.out.chg (Chg.of_below (HAL.out _) 0 []) (.inr (by simp)))
          refine ⟨hs6.pushed (c := ⟨sq, tm, cao, n, ccap, l⟩) HOWN.out HGROW.out (HC5.out.chg (Chg.of_below (HAL.out _) 0 []) (by simp)) (by omega), hKg.chg hch2 (.inr (by decide)), ?_⟩
          exact ((Chg.of_below HB5.out base _).trans ((Chg.of_below (HAL.out _) _ _).trans ((hch1.mono (Nat.le_refl _) (by simp)).trans (hch2.mono (Nat.le_refl _) (by simp)))))
      case rest =>
        obtain ⟨HST7, HK7, HCH7⟩ := hcut
        have hnn : n ≤ 200 := by have := HLN.out; omega
        have k7 : wc.cell? ⟨g, 2, none⟩ = some (.slice cao n ccap) := HK7.out.cell 2
        have hg0 : ∀ k vs, getA (its.map It.ab) k = some vs → vs.length ≤ N ∧ lastV vs ≤ low + hist.length := by
          intro k vs hv
          obtain ⟨y, hy, _, rfl⟩ := getA_mem hv
          obtain ⟨fs, lo, lcap, h1, h2, hs⟩ := HSTW.out
          have hy' := hy
          rw [← hs.flt] at hy'
          obtain ⟨f, hf, hyf⟩ := List.mem_flatMap.1 hy'
          have := (hs.tree.its f hf y hyf).2.1
          exact ⟨by rw [this]; exact hs.few.2.2 y hy, hs.lastv y hy⟩
        have hitl : its.length ≤ N := by obtain ⟨_, _, _, _, _, hs⟩ := HSTW.out; exact hs.few.1
        have HG0 := Lib.hid hg0
        have HCH0 : Hid (Chg base [87, 125, 124, 28] w wc) := HCH7.out.mono (Nat.le_refl _) (by simp)
        clear hg0
        go_wp2_with fail
        go_loopw [6, 7, 8, 9, 10, 85] (fun _ _ _ _ _ j wr => ∃ k : Nat, j = .int .i64 k ∧ k ≤ n ∧ ∃ its', Hid (StoreAt base S wr low (hist ++ [⟨sq, tm, cao, n, ccap, l⟩]) its' (N + 200)) ∧ Hid (its'.map It.ab = stepC sq (its.map It.ab) (l.take k)) ∧ its'.length ≤ its.length + k ∧ Hid (Blk wr g 28 #[.int .i64 sq, .int .i64 tm, .slice cao n ccap]) ∧ Hid (Chg base [87, 125, 124, 28] w wr)) (fun _ _ _ _ _ j _ => n - (intOf j).toNat)
        case atStart => exact ⟨0, rfl, Nat.zero_le _, its, HST7.out, Lib.hid rfl, Nat.le_refl _, HK7.out, HCH0.out⟩
        case round =>
          obtain ⟨k, rfl, hk, its', hst, hab, hle, hkg, hch⟩ := hrel
          by_cases hlt : k < n
          · have hrd := hst.out.com_rd (c := ⟨sq, tm, cao, n, ccap, l⟩) (by simp)
            obtain ⟨b, off, hcao, hb, hc⟩ := hrd.cells (by show 0 < n; omega)
            obtain ⟨x, hx⟩ : ∃ x, l[k]? = some x := ⟨l[k]'(by rw [HLN.out]; omega), List.getElem?_eq_getElem _⟩
            obtain ⟨h0, h1', h2'⟩ := RdW.at_ hrd hx hcao
            simp only at hcao
            subst hcao
            obtain ⟨kx, vx, gx⟩ := x
            simp only at h0 h1' h2'
            have HX := Lib.hid hx
            clear hx hc hrd
            go_wp2_with fail
            obtain ⟨Wx, hWx⟩ : ∃ W, W = wr.alloc (Obj.cells #[Value.string kx, Value.string vx, Value.bool gx] 31) := ⟨_, rfl⟩
            obtain ⟨d, hd⟩ : ∃ d, d = wr.heap.size := ⟨_, rfl⟩
            have hbd : Blk Wx d 31 #[Value.string kx, Value.string vx, Value.bool gx] := by rw [hWx, hd]; exact Blk.new _ _ _
            have hbr : Below wr.heap.size wr Wx := by rw [hWx]; exact (Below.refl _ _).alloc (Nat.le_refl _) _
            have hstx : StoreAt base S Wx low (hist ++ [⟨sq, tm, some ⟨b, off, none⟩, n, ccap, l⟩]) its' (N + 200) := hst.out.below hbr
            have hkx : Blk Wx g 28 #[.int .i64 sq, .int .i64 tm, .slice (some ⟨b, off, none⟩) n ccap] := hkg.out.chg (Chg.of_below hbr 0 []) (.inr (by simp))
            have hchx : Chg base [87, 125, 124, 28] w Wx := hch.out.trans (Chg.of_below hbr _ _)
            have x0 : Wx.cell? ⟨d, 0, none⟩ = some (.string kx) := hbd.cell 0
            rw [← hWx, ← hd]
            have HSTX : Hid (StoreAt base S Wx.drew low (hist ++ [⟨sq, tm, some ⟨b, off, none⟩, n, ccap, l⟩]) its' (N + 200)) := hstx.chg (Chg.drew 0 [] _) (by decide) (by decide) (by decide) (by decide) (by decide) (by decide)
            have HKX : Hid (Blk Wx.drew g 28 #[.int .i64 sq, .int .i64 tm, .slice (some ⟨b, off, none⟩) n ccap]) := hkx
            have HBD : Hid (Blk Wx.drew d 31 #[Value.string kx, Value.string vx, Value.bool gx]) := hbd
            have HCX : Hid (Chg base [87, 125, 124, 28] w Wx.drew) := hchx.trans (Chg.drew _ _ _)
            clear hbd hbr hstx hkx hchx hWx hd h0 h1' h2' hst hkg hch
            go_region_held3 (fun w' => w'.cell? ⟨d, 0, none⟩ = some (.string kx)) (go_keep)
              ((first
                | (go_at_call_of 44 (Value.string kx); refine (get_st base S low (hist ++ [⟨sq, tm, some ⟨b, off, none⟩, n, ccap, l⟩]) its' (N + 200) kx _ (by exact HSTX.out) (by omega)).mono ?_; rintro e wa ⟨oao, on, ocap, ob, rfl, hba, hrda, hna, hon⟩; have KD := Lib.hid (HBD.out.chg (Chg.of_below hba 0 []) (.inr (by simp))); have ca0 : wa.cell? ⟨d, 0, none⟩ = some (.string kx) := KD.out.cell 0; have HBA := Lib.hid hba; have HRA := Lib.hid hrda; have HNA := Lib.hid hna; clear hba hrda hna)))
            have kg0 : Blk wa g 28 #[.int .i64 sq, .int .i64 tm, .slice (some ⟨b, off, none⟩) n ccap] := HKX.out.chg (Chg.of_below HBA.out 0 []) (.inr (by simp))
            have g0 : wa.cell? ⟨g, 0, none⟩ = some (.int .i64 sq) := kg0.cell 0
            have x1 : wa.cell? ⟨d, 1, none⟩ = some (.string vx) := KD.out.cell 1
            have x2 : wa.cell? ⟨d, 2, none⟩ = some (.bool gx) := KD.out.cell 2
            have HKA := Lib.hid kg0
            clear kg0
            have hrise : risesB l = true := by have := HRT.out; unfold rightB at this; simp only [Bool.and_eq_true] at this; exact this.2
            have hwr : gx = true → vx.toList.isEmpty = true := by
              intro hg1
              have hb0 : badAt l k = false := by
                cases hc : badAt l k with
                | false => rfl
                | true => rw [risesB_no (by rw [HLN.out]; exact hlt) hc] at hrise; cases hrise
              rw [badAt_eq HX.out] at hb0
              simp only [Bool.or_eq_false_iff, wrBad] at hb0
              have := hb0.1.2
              rw [hg1] at this
              simpa using this
            have hget : getA (its'.map It.ab) kx = getA (its.map It.ab) kx := by
              rw [hab.out]
              refine getA_stepC_ne sq kx _ _ (fun y hy e => ?_)
              obtain ⟨i, hi⟩ := List.getElem?_of_mem hy
              rw [List.getElem?_take] at hi
              split at hi
              · rename_i hik
                have hp := rises_pair hrise
                rw [List.pairwise_iff_getElem] at hp
                obtain ⟨q1, e1⟩ := List.getElem?_eq_some_iff.1 hi
                obtain ⟨q2, e2⟩ := List.getElem?_eq_some_iff.1 HX.out
                have := hp i k q1 q2 hik
                rw [e1, e2, e, ltK_irrefl] at this
                cases this
              · cases hi
            obtain ⟨vs, hvs⟩ : ∃ vs, vs = (getA (its'.map It.ab) kx).getD [] := ⟨_, rfl⟩
            have hra := HRA.out
            rw [← hvs] at hra
            have hvl : vs.length = on := by have := hra.len; simpa using this
            have hvv : vs.length ≤ N ∧ lastV vs ≤ low + hist.length := by
              rw [hvs, hget]
              cases hga : getA (its.map It.ab) kx with
              | none => exact ⟨Nat.zero_le _, by show (-1 : Int) ≤ _; omega⟩
              | some v0 => exact HG0.out kx v0 hga
            have hseq := HE1.out
            have hlsq : lastV vs < sq := by rw [hseq]; omega
            have hsq0 : 0 ≤ sq := by rw [hseq]; omega
            have HRA2 : Hid (RdV Wx.drew.heap.size wa oao on ocap vs) := hra.below HBA.out
            have HVS := Lib.hid hvs
            have HVL := Lib.hid hvl
            have hon2 : on ≤ N := by omega
            have hlv := hvv.2
            have HWR := Lib.hid hwr
            have HSQ := Lib.hid hseq
            clear hrise hget hra hvs hvl hvv hseq hwr
            go_wp2_with fail
            refine (chPut_any Wx.drew.heap.size oao on ocap vs sq vx gx wa HRA2.out HNA.out HBA.out.size hon hlsq hsq0 e2 HWR.out).mono ?_
            rintro e wp ⟨pv, rfl, hpo, hbp⟩
            obtain ⟨m, hm⟩ : ∃ m, m = (vs ++ [(⟨sq, vx, gx⟩ : Ver)]).length := ⟨_, rfl⟩
            rw [← hm] at hpo
            have hm1 : m = on + 1 := by rw [hm]; simp; exact HVL.out
            obtain ⟨pg, pcap, rfl, hpc, _⟩ := own_form hpo (by omega)
            have hbase : base ≤ wa.heap.size := Nat.le_trans hbw (Nat.le_trans HCX.out.size HBA.out.size)
            have hxi : ItOk base wp ⟨kx, some ⟨pg, 0, none⟩, m, pcap, vs ++ [⟨sq, vx, gx⟩]⟩ := ⟨own_mono hpo hbase, hm.symm, by show 0 < m; omega, by show m ≤ 1000000; omega⟩
            have hbap : Below Wx.drew.heap.size Wx.drew wp := HBA.out.trans (hbp.mono HBA.out.size)
            have KP := Lib.hid (KD.out.chg (Chg.of_below hbp 0 []) (.inr (by simp)))
            have p0 : wp.cell? ⟨d, 0, none⟩ = some (.string kx) := KP.out.cell 0
            have HSTP : Hid (StoreAt base S wp.drew low (hist ++ [⟨sq, tm, some ⟨b, off, none⟩, n, ccap, l⟩]) its' (N + 200)) := (HSTX.out.below hbap).chg (Chg.drew 0 [] _) (by decide) (by decide) (by decide) (by decide) (by decide) (by decide)
            have HXI : Hid (ItOk base wp.drew ⟨kx, some ⟨pg, 0, none⟩, m, pcap, vs ++ [⟨sq, vx, gx⟩]⟩) := hxi
            have hkp0 : Blk wp g 28 #[.int .i64 sq, .int .i64 tm, .slice (some ⟨b, off, none⟩) n ccap] := HKA.out.chg (Chg.of_below hbp 0 []) (.inr (by simp))
            have HKP : Hid (Blk wp.drew g 28 #[.int .i64 sq, .int .i64 tm, .slice (some ⟨b, off, none⟩) n ccap]) := hkp0
            have HCP : Hid (Chg base [87, 125, 124, 28] w wp.drew) := (HCX.out.trans (Chg.of_below hbap _ _)).trans (Chg.drew _ _ _)
            have hlast : lastV (vs ++ [(⟨sq, vx, gx⟩ : Ver)]) ≤ low + ((hist ++ [(⟨sq, tm, some ⟨b, off, none⟩, n, ccap, l⟩ : Com)]).length : Nat) := by
              have := HSQ.out
              simp [lastV]
              omega
            have HLA := Lib.hid hlast
            have hnl : m ≤ N + 200 := by omega
            have hitl2 : its'.length + 1 ≤ N + 200 := by have := HLN.out; omega
            have HPUT := Lib.hid (put_st base S low (hist ++ [⟨sq, tm, some ⟨b, off, none⟩, n, ccap, l⟩]) its' (N + 200) (N + 200) ⟨kx, some ⟨pg, 0, none⟩, m, pcap, vs ++ [⟨sq, vx, gx⟩]⟩ wp.drew HSTP.out HXI.out HLA.out hitl2 (Nat.le_refl _) (by omega) hnl)
            clear hm hm1 hkp0 hpo hbp hxi hbap hlast hnl
            dsimp only
            go_wp2_with fail
            go_region_held3 (fun w' => w'.cell? ⟨d, 0, none⟩ = some (.string kx)) (go_keep)
              ((first
                | (go_at_call_of 42 (Value.string kx); refine (HPUT.out).mono ?_; rintro e wq ⟨bq, rfl, hcq, hsq⟩; have KQ := Lib.hid (HKP.out.chg hcq (.inr (by decide))); have KQ2 := Lib.hid (KP.out.chg ((Chg.drew 0 [87, 125, 124] wp).trans (hcq.mono (Nat.zero_le _) (by simp))) (.inr (by decide))); have cq0 : wq.cell? ⟨d, 0, none⟩ = some (.string kx) := KQ2.out.cell 0; have HCQ := Lib.hid hcq; have HSQ2 := Lib.hid hsq; clear hcq hsq)))
            go_wp2_with fail
            go_roundw
            case rel =>
              refine ⟨k + 1, by go_num, by omega, _, HSQ2.out, ?_, ?_, KQ.out, HCP.out.trans (HCQ.out.mono (Nat.le_refl _) (by simp))⟩
              · show (ups its' _).map It.ab = _
                rw [ups_ab, List.take_add_one, HX.out]
                show _ = stepC sq (its.map It.ab) (l.take k ++ [⟨kx, vx, gx⟩])
                rw [stepC_append, ← hab.out]
                show upA _ kx (vs ++ _) = upA _ kx (_ ++ _)
                rw [← HVS.out]
              · have hsrt : Srt its' := by obtain ⟨_, _, _, _, _, hs⟩ := HSTP.out; exact hs.srt
                rw [ups_length hsrt]
                split <;> omega
            case measure => simp [intOf]; omega
          · obtain rfl : k = n := by omega
            go_wp2_with fail
            go_ret
            unfold ComSt
            rw [HOK.out]
            have hab' := hab.out
            rw [← HLN.out, List.take_length] at hab'
            exact ⟨⟨sq, tm, cao, _, ccap, l⟩, its', rfl, rfl, rfl, rfl, hst.out, hab', hch.out⟩
    · have hpos : 0 < hist.length := by
        have := (List.getElem?_eq_some_iff.1 hp).1
        omega
      have d5 : decide (0 < hist.length) = true := by simpa using hpos
      have i1 : (0 : Int) ≤ (hist.length : Int) - 1 := by omega
      have i2 : (hist.length : Int) - 1 < hist.length := by omega
      have i3 : ((hist.length : Int) - 1).toNat = hist.length - 1 := by omega
      have i4 : IntKind.i64.wrap ((hist.length : Int) - 1) = (hist.length : Int) - 1 := by rw [IntKind.wrap_i64]; omega
      have hlk := lastOk_at (tm := tm) hp
      have HLK := Lib.hid hlk
      clear hlk hp
      by_cases d6 : tm < p.tm
      · have d7 : decide (tm < p.tm) = true := by simpa using d6
        go_wp2_with fail
        go_quiet (fail)
        go_wp2_with fail
        go_ret
        exact ComSt.no (by rw [HCB.out, HLK.out]; simp; omega) rfl (HBQ.out _)
      · have d7 : decide (tm < p.tm) = false := by simpa using d6
        go_wp2_with fail
        go_quiet (fail)
        have HOK : Hid (comB low hist sq tm l = true) := by
          show comB low hist sq tm l = true
          rw [HCB.out, HLK.out, HRT.out]
          simpa using d6
        go_wp2_with fail
        have hn200 : l.length ≤ 200 := by have := HRT.out; unfold rightB at this; simp only [Bool.and_eq_true, decide_eq_true_eq] at this; exact this.1
        have hln : l.length = n := by have := HRDB.out.len; simpa using this
        refine (cloneW_any B ao n cap (l.map Wr.cells) _ (HRDB.out.drewN _) hBb (by omega) (fun x hx u hu => by obtain ⟨y, _, rfl⟩ := List.mem_map.1 hx; simp [Wr.cells] at hu; rcases hu with rfl | rfl | rfl <;> rfl)).mono ?_
        rintro e wc ⟨cv, rfl, hown, hbc⟩
        obtain ⟨cao, ccap, rfl, hcrd, _⟩ := Rd.of_own hown (fun x hx => by obtain ⟨y, _, rfl⟩ := List.mem_map.1 hx; rfl) (by simpa using hln)
        have hbc' : Below wb.heap.size wb wc := (Chg.drewN wb.heap.size [] wb _).nil_below.trans hbc
        have KC : Blk wc g 28 #[.int .i64 sq, .int .i64 tm, .slice ao n cap] := KB.out.chg (Chg.of_below hbc' 0 []) (.inr (by simp))
        have f2 : wc.frozen? ⟨g, 2, none⟩ = false := KC.frozen 2
        have e2' : wc.cell? ⟨g, 2, none⟩ = some (.slice ao n cap) := KC.cell 2
        obtain ⟨W5, hW5⟩ : ∃ W, W = wc.setCell ⟨g, 2, none⟩ (.slice cao n ccap) := ⟨_, rfl⟩
        have KW : Blk W5 g 28 #[.int .i64 sq, .int .i64 tm, .slice cao n ccap] := by rw [hW5]; exact KC.set_ 2 _
        have hsc : ∀ B', B' ≤ g → Chg B' [28] wc (wc.setCell ⟨g, 2, none⟩ (.slice cao n ccap)) := fun B' h => Chg.setCell (p := ⟨g, 2, none⟩) _ h KC (by simp)
        have hb5 : Below w.heap.size w W5 := by
          rw [hW5]
          exact (HB3.out.trans (hbc'.mono hszb)).trans ((hsc w.heap.size (by have := HGG.out; omega)).below (by have := hbc'.size; omega))
        have hcom5 : ComOk base W5 ⟨sq, tm, cao, n, ccap, l⟩ := by
          rw [hW5]
          exact ⟨own_chg (own_mono hown (by show base ≤ wb.heap.size; omega)) (hsc 0 (Nat.zero_le _)) (by decide), hln, by show n ≤ 200; omega⟩
        have k0 : W5.cell? ⟨g, 0, none⟩ = some (.int .i64 sq) := KW.cell 0
        have k1 : W5.cell? ⟨g, 1, none⟩ = some (.int .i64 tm) := KW.cell 1
        have k2 : W5.cell? ⟨g, 2, none⟩ = some (.slice cao n ccap) := KW.cell 2
        have HKW := Lib.hid KW
        have HC5 := Lib.hid hcom5
        have HB5 := Lib.hid hb5
        have HW5 := Lib.hid hW5
        have HLN := Lib.hid hln
        clear hsc hown hbc hbc' hcrd KC KW hcom5 hb5 hW5 HRDB c3 hln
        dsimp only
        go_upto_region 6 with fail
        rw [← HW5.out]
        obtain ⟨fs, lo, lcap, hao5, hcap5, hsaw⟩ := HSTW.out
        have hne := hsaw.row_lt (g := g) (by rw [HGG.out]; exact Nat.le_refl _)
        have hsa := hsaw.below HB5.out (Nat.le_refl N)
        have HNE := Lib.hid hne
        clear hsaw hne
        have s3 : W5.cell? ⟨S, 3, none⟩ = some (.slice hao5 hist.length hcap5) := by rw [hsa.blk.cell]; rfl
        have hal : ∀ o, Below W5.heap.size W5 (W5.drew.alloc o) := fun o => (Below.drew (Below.refl _ W5)).alloc (Nat.le_refl _) o
        have hown6 : ∀ o, (W5.drew.alloc o).ownsRow base 28 3 (.slice hao5 hist.length hcap5) hist.length (hist.map Com.cells).flatten := fun o => own_below hsa.hrow (hal o)
        have hnw : ∀ cs : List Value, ∀ j u, cs[j]? = some u → (W5.drew.alloc (.cells cs.toArray 28)).cell? ((⟨W5.heap.size, 0, none⟩ : Addr).add j) = some u := fun cs j u hj => by
          rw [Addr.add_lit, Nat.zero_add]
          have := (Blk.new W5.drew 28 cs.toArray).cell j
          simp only [World.drew] at this
          exact this.trans (by simpa using hj)
        have hgrS : ∀ o w', (W5.drew.alloc o).grownBy w' (Value.slice hao5 hist.length hcap5).ownBlock → Blk w' S 87 #[.slice lo fs.length lcap, .int .i64 its.length, .int .i64 low, .slice hao5 hist.length hcap5] := fun o w' hg =>
          (hg.block S (by have := hsa.blk.lt; simp; omega) (fun e => hsa.row_ne e.symm)).trans (hsa.blk.chg (Chg.of_below (hal o) 0 []) (.inr (by simp)))
        have sA : ∀ o, (W5.alloc o).cell? ⟨S, 3, none⟩ = some (.slice hao5 hist.length hcap5) := fun o => (World.cell?_alloc_lt _ _ _ hsa.blk.lt).trans s3
        have HOWN6 := Lib.hid hown6
        have HNW := Lib.hid hnw
        have HGRS := Lib.hid hgrS
        have HSA := Lib.hid hsa
        have HAL := Lib.hid hal
        have hbw5 : base ≤ W5.heap.size := Nat.le_trans hbw HB5.out.size
        clear hown6 hnw hgrS hsa hal
        obtain ⟨i0, hi0, hz0, hz1, hz2⟩ := info_parts Try.info28
        go_cut [11] (fun _ wx => Hid (StoreAt base S wx low (hist ++ [⟨sq, tm, cao, n, ccap, l⟩]) its (N + 200)) ∧ Hid (Blk wx g 28 #[.int .i64 sq, .int .i64 tm, .slice cao n ccap]) ∧ Hid (Chg base [87, 28] w wx))
        case first =>
          go_region_law (refine step_append_own rfl (.tmp 76) (.tmp 78) 23 rfl base 28 i0 _ 3 40 Try.underlying23 hi0 hz0 hz1 hz2 rfl (by decide) (.slice hao5 hist.length hcap5) hist.length (hist.map Com.cells).flatten (by simp [Act.eval]) (by exact HOWN6.out _) ⟨W5.heap.size, 0, none⟩ 1 1 [.int .i64 sq, .int .i64 tm, .slice cao n ccap] (by simp [Act.eval]) rfl (by exact HNW.out _) (by simp [Value.oneCell']) (by unfold maxLen; omega) (by omega) (by simp; omega) ?_; intro v' w' hown hgrow; obtain ⟨hg6, hcap6, rfl, hc6, _⟩ := own_form hown (Nat.succ_pos _); have q3 : w'.cell? ⟨S, 3, none⟩ = some (.slice hao5 hist.length hcap5) := (HGRS.out _ _ hgrow).cell 3; have q4 : w'.frozen? ⟨S, 3, none⟩ = false := (HGRS.out _ _ hgrow).frozen 3; have HOWN := Lib.hid hown; have HGROW := Lib.hid hgrow; clear hown hgrow)
          all_goals
            go_wp2_with fail
            go_meet
            have hs6 := HSA.out.below (N' := N + 200) (HAL.out (.cells #[.int .i64 sq, .int .i64 tm, .slice cao n ccap] 28)) (by omega)
            have hne := HNE.out
            have hch1 : Chg base [28] (W5.drew.alloc (.cells #[.int .i64 sq, .int .i64 tm, .slice cao n ccap] 28)) w' := own_grown hs6.hrow HGROW.out (Nat.le_refl _) (by simp)
            have hbS : Blk w' S 87 #[.slice lo fs.length lcap, .int .i64 its.length, .int .i64 low, .slice hao5 hist.length hcap5] := HGRS.out _ _ HGROW.out
            have hch2 : Chg base [87] w' (w'.setCell ⟨S, 3, none⟩ (.slice (some ⟨hg6, 0, none⟩) (hist.length + 1) hcap6)) := Chg.setCell (p := ⟨S, 3, none⟩) _ hs6.hb hbS (by simp)
            have hKg : Blk w' g 28 #[.int .i64 sq, .int .i64 tm, .slice cao n ccap] := (HGROW.out.block g (by have := HKW.out.lt; simp; omega) (fun e => hne e.symm)).trans (HKW.out.chg (Chg.of_below (HAL.out _) 0 []) (.inr (by simp)))
            refine ⟨hs6.pushed (c := ⟨sq, tm, cao, n, ccap, l⟩) HOWN.out HGROW.out (HC5.out.chg (Chg.of_below (HAL.out _) 0 []) (by simp)) (by omega), hKg.chg hch2 (.inr (by decide)), ?_⟩
            exact ((Chg.of_below HB5.out base _).trans ((Chg.of_below (HAL.out _) _ _).trans ((hch1.mono (Nat.le_refl _) (by simp)).trans (hch2.mono (Nat.le_refl _) (by simp)))))
        case rest =>
          obtain ⟨HST7, HK7, HCH7⟩ := hcut
          have hnn : n ≤ 200 := by have := HLN.out; omega
          have k7 : wc.cell? ⟨g, 2, none⟩ = some (.slice cao n ccap) := HK7.out.cell 2
          have hg0 : ∀ k vs, getA (its.map It.ab) k = some vs → vs.length ≤ N ∧ lastV vs ≤ low + hist.length := by
            intro k vs hv
            obtain ⟨y, hy, _, rfl⟩ := getA_mem hv
            obtain ⟨fs, lo, lcap, h1, h2, hs⟩ := HSTW.out
            have hy' := hy
            rw [← hs.flt] at hy'
            obtain ⟨f, hf, hyf⟩ := List.mem_flatMap.1 hy'
            have := (hs.tree.its f hf y hyf).2.1
            exact ⟨by rw [this]; exact hs.few.2.2 y hy, hs.lastv y hy⟩
          have hitl : its.length ≤ N := by obtain ⟨_, _, _, _, _, hs⟩ := HSTW.out; exact hs.few.1
          have HG0 := Lib.hid hg0
          have HCH0 : Hid (Chg base [87, 125, 124, 28] w wc) := HCH7.out.mono (Nat.le_refl _) (by simp)
          clear hg0
          go_wp2_with fail
          go_loopw [6, 7, 8, 9, 10, 85] (fun _ _ _ _ _ j wr => ∃ k : Nat, j = .int .i64 k ∧ k ≤ n ∧ ∃ its', Hid (StoreAt base S wr low (hist ++ [⟨sq, tm, cao, n, ccap, l⟩]) its' (N + 200)) ∧ Hid (its'.map It.ab = stepC sq (its.map It.ab) (l.take k)) ∧ its'.length ≤ its.length + k ∧ Hid (Blk wr g 28 #[.int .i64 sq, .int .i64 tm, .slice cao n ccap]) ∧ Hid (Chg base [87, 125, 124, 28] w wr)) (fun _ _ _ _ _ j _ => n - (intOf j).toNat)
          case atStart => exact ⟨0, rfl, Nat.zero_le _, its, HST7.out, Lib.hid rfl, Nat.le_refl _, HK7.out, HCH0.out⟩
          case round =>
            obtain ⟨k, rfl, hk, its', hst, hab, hle, hkg, hch⟩ := hrel
            by_cases hlt : k < n
            · have hrd := hst.out.com_rd (c := ⟨sq, tm, cao, n, ccap, l⟩) (by simp)
              obtain ⟨b, off, hcao, hb, hc⟩ := hrd.cells (by show 0 < n; omega)
              obtain ⟨x, hx⟩ : ∃ x, l[k]? = some x := ⟨l[k]'(by rw [HLN.out]; omega), List.getElem?_eq_getElem _⟩
              obtain ⟨h0, h1', h2'⟩ := RdW.at_ hrd hx hcao
              simp only at hcao
              subst hcao
              obtain ⟨kx, vx, gx⟩ := x
              simp only at h0 h1' h2'
              have HX := Lib.hid hx
              clear hx hc hrd
              go_wp2_with fail
              obtain ⟨Wx, hWx⟩ : ∃ W, W = wr.alloc (Obj.cells #[Value.string kx, Value.string vx, Value.bool gx] 31) := ⟨_, rfl⟩
              obtain ⟨d, hd⟩ : ∃ d, d = wr.heap.size := ⟨_, rfl⟩
              have hbd : Blk Wx d 31 #[Value.string kx, Value.string vx, Value.bool gx] := by rw [hWx, hd]; exact Blk.new _ _ _
              have hbr : Below wr.heap.size wr Wx := by rw [hWx]; exact (Below.refl _ _).alloc (Nat.le_refl _) _
              have hstx : StoreAt base S Wx low (hist ++ [⟨sq, tm, some ⟨b, off, none⟩, n, ccap, l⟩]) its' (N + 200) := hst.out.below hbr
              have hkx : Blk Wx g 28 #[.int .i64 sq, .int .i64 tm, .slice (some ⟨b, off, none⟩) n ccap] := hkg.out.chg (Chg.of_below hbr 0 []) (.inr (by simp))
              have hchx : Chg base [87, 125, 124, 28] w Wx := hch.out.trans (Chg.of_below hbr _ _)
              have x0 : Wx.cell? ⟨d, 0, none⟩ = some (.string kx) := hbd.cell 0
              rw [← hWx, ← hd]
              have HSTX : Hid (StoreAt base S Wx.drew low (hist ++ [⟨sq, tm, some ⟨b, off, none⟩, n, ccap, l⟩]) its' (N + 200)) := hstx.chg (Chg.drew 0 [] _) (by decide) (by decide) (by decide) (by decide) (by decide) (by decide)
              have HKX : Hid (Blk Wx.drew g 28 #[.int .i64 sq, .int .i64 tm, .slice (some ⟨b, off, none⟩) n ccap]) := hkx
              have HBD : Hid (Blk Wx.drew d 31 #[Value.string kx, Value.string vx, Value.bool gx]) := hbd
              have HCX : Hid (Chg base [87, 125, 124, 28] w Wx.drew) := hchx.trans (Chg.drew _ _ _)
              clear hbd hbr hstx hkx hchx hWx hd h0 h1' h2' hst hkg hch
              go_region_held3 (fun w' => w'.cell? ⟨d, 0, none⟩ = some (.string kx)) (go_keep)
                ((first
                  | (go_at_call_of 44 (Value.string kx); refine (get_st base S low (hist ++ [⟨sq, tm, some ⟨b, off, none⟩, n, ccap, l⟩]) its' (N + 200) kx _ (by exact HSTX.out) (by omega)).mono ?_; rintro e wa ⟨oao, on, ocap, ob, rfl, hba, hrda, hna, hon⟩; have KD := Lib.hid (HBD.out.chg (Chg.of_below hba 0 []) (.inr (by simp))); have ca0 : wa.cell? ⟨d, 0, none⟩ = some (.string kx) := KD.out.cell 0; have HBA := Lib.hid hba; have HRA := Lib.hid hrda; have HNA := Lib.hid hna; clear hba hrda hna)))
              have kg0 : Blk wa g 28 #[.int .i64 sq, .int .i64 tm, .slice (some ⟨b, off, none⟩) n ccap] := HKX.out.chg (Chg.of_below HBA.out 0 []) (.inr (by simp))
              have g0 : wa.cell? ⟨g, 0, none⟩ = some (.int .i64 sq) := kg0.cell 0
              have x1 : wa.cell? ⟨d, 1, none⟩ = some (.string vx) := KD.out.cell 1
              have x2 : wa.cell? ⟨d, 2, none⟩ = some (.bool gx) := KD.out.cell 2
              have HKA := Lib.hid kg0
              clear kg0
              have hrise : risesB l = true := by have := HRT.out; unfold rightB at this; simp only [Bool.and_eq_true] at this; exact this.2
              have hwr : gx = true → vx.toList.isEmpty = true := by
                intro hg1
                have hb0 : badAt l k = false := by
                  cases hc : badAt l k with
                  | false => rfl
                  | true => rw [risesB_no (by rw [HLN.out]; exact hlt) hc] at hrise; cases hrise
                rw [badAt_eq HX.out] at hb0
                simp only [Bool.or_eq_false_iff, wrBad] at hb0
                have := hb0.1.2
                rw [hg1] at this
                simpa using this
              have hget : getA (its'.map It.ab) kx = getA (its.map It.ab) kx := by
                rw [hab.out]
                refine getA_stepC_ne sq kx _ _ (fun y hy e => ?_)
                obtain ⟨i, hi⟩ := List.getElem?_of_mem hy
                rw [List.getElem?_take] at hi
                split at hi
                · rename_i hik
                  have hp := rises_pair hrise
                  rw [List.pairwise_iff_getElem] at hp
                  obtain ⟨q1, e1⟩ := List.getElem?_eq_some_iff.1 hi
                  obtain ⟨q2, e2⟩ := List.getElem?_eq_some_iff.1 HX.out
                  have := hp i k q1 q2 hik
                  rw [e1, e2, e, ltK_irrefl] at this
                  cases this
                · cases hi
              obtain ⟨vs, hvs⟩ : ∃ vs, vs = (getA (its'.map It.ab) kx).getD [] := ⟨_, rfl⟩
              have hra := HRA.out
              rw [← hvs] at hra
              have hvl : vs.length = on := by have := hra.len; simpa using this
              have hvv : vs.length ≤ N ∧ lastV vs ≤ low + hist.length := by
                rw [hvs, hget]
                cases hga : getA (its.map It.ab) kx with
                | none => exact ⟨Nat.zero_le _, by show (-1 : Int) ≤ _; omega⟩
                | some v0 => exact HG0.out kx v0 hga
              have hseq := HE1.out
              have hlsq : lastV vs < sq := by rw [hseq]; omega
              have hsq0 : 0 ≤ sq := by rw [hseq]; omega
              have HRA2 : Hid (RdV Wx.drew.heap.size wa oao on ocap vs) := hra.below HBA.out
              have HVS := Lib.hid hvs
              have HVL := Lib.hid hvl
              have hon2 : on ≤ N := by omega
              have hlv := hvv.2
              have HWR := Lib.hid hwr
              have HSQ := Lib.hid hseq
              clear hrise hget hra hvs hvl hvv hseq hwr
              go_wp2_with fail
              refine (chPut_any Wx.drew.heap.size oao on ocap vs sq vx gx wa HRA2.out HNA.out HBA.out.size hon hlsq hsq0 e2 HWR.out).mono ?_
              rintro e wp ⟨pv, rfl, hpo, hbp⟩
              obtain ⟨m, hm⟩ : ∃ m, m = (vs ++ [(⟨sq, vx, gx⟩ : Ver)]).length := ⟨_, rfl⟩
              rw [← hm] at hpo
              have hm1 : m = on + 1 := by rw [hm]; simp; exact HVL.out
              obtain ⟨pg, pcap, rfl, hpc, _⟩ := own_form hpo (by omega)
              have hbase : base ≤ wa.heap.size := Nat.le_trans hbw (Nat.le_trans HCX.out.size HBA.out.size)
              have hxi : ItOk base wp ⟨kx, some ⟨pg, 0, none⟩, m, pcap, vs ++ [⟨sq, vx, gx⟩]⟩ := ⟨own_mono hpo hbase, hm.symm, by show 0 < m; omega, by show m ≤ 1000000; omega⟩
              have hbap : Below Wx.drew.heap.size Wx.drew wp := HBA.out.trans (hbp.mono HBA.out.size)
              have KP := Lib.hid (KD.out.chg (Chg.of_below hbp 0 []) (.inr (by simp)))
              have p0 : wp.cell? ⟨d, 0, none⟩ = some (.string kx) := KP.out.cell 0
              have HSTP : Hid (StoreAt base S wp.drew low (hist ++ [⟨sq, tm, some ⟨b, off, none⟩, n, ccap, l⟩]) its' (N + 200)) := (HSTX.out.below hbap).chg (Chg.drew 0 [] _) (by decide) (by decide) (by decide) (by decide) (by decide) (by decide)
              have HXI : Hid (ItOk base wp.drew ⟨kx, some ⟨pg, 0, none⟩, m, pcap, vs ++ [⟨sq, vx, gx⟩]⟩) := hxi
              have hkp0 : Blk wp g 28 #[.int .i64 sq, .int .i64 tm, .slice (some ⟨b, off, none⟩) n ccap] := HKA.out.chg (Chg.of_below hbp 0 []) (.inr (by simp))
              have HKP : Hid (Blk wp.drew g 28 #[.int .i64 sq, .int .i64 tm, .slice (some ⟨b, off, none⟩) n ccap]) := hkp0
              have HCP : Hid (Chg base [87, 125, 124, 28] w wp.drew) := (HCX.out.trans (Chg.of_below hbap _ _)).trans (Chg.drew _ _ _)
              have hlast : lastV (vs ++ [(⟨sq, vx, gx⟩ : Ver)]) ≤ low + ((hist ++ [(⟨sq, tm, some ⟨b, off, none⟩, n, ccap, l⟩ : Com)]).length : Nat) := by
                have := HSQ.out
                simp [lastV]
                omega
              have HLA := Lib.hid hlast
              have hnl : m ≤ N + 200 := by omega
              have hitl2 : its'.length + 1 ≤ N + 200 := by have := HLN.out; omega
              have HPUT := Lib.hid (put_st base S low (hist ++ [⟨sq, tm, some ⟨b, off, none⟩, n, ccap, l⟩]) its' (N + 200) (N + 200) ⟨kx, some ⟨pg, 0, none⟩, m, pcap, vs ++ [⟨sq, vx, gx⟩]⟩ wp.drew HSTP.out HXI.out HLA.out hitl2 (Nat.le_refl _) (by omega) hnl)
              clear hm hm1 hkp0 hpo hbp hxi hbap hlast hnl
              dsimp only
              go_wp2_with fail
              go_region_held3 (fun w' => w'.cell? ⟨d, 0, none⟩ = some (.string kx)) (go_keep)
                ((first
                  | (go_at_call_of 42 (Value.string kx); refine (HPUT.out).mono ?_; rintro e wq ⟨bq, rfl, hcq, hsq⟩; have KQ := Lib.hid (HKP.out.chg hcq (.inr (by decide))); have KQ2 := Lib.hid (KP.out.chg ((Chg.drew 0 [87, 125, 124] wp).trans (hcq.mono (Nat.zero_le _) (by simp))) (.inr (by decide))); have cq0 : wq.cell? ⟨d, 0, none⟩ = some (.string kx) := KQ2.out.cell 0; have HCQ := Lib.hid hcq; have HSQ2 := Lib.hid hsq; clear hcq hsq)))
              go_wp2_with fail
              go_roundw
              case rel =>
                refine ⟨k + 1, by go_num, by omega, _, HSQ2.out, ?_, ?_, KQ.out, HCP.out.trans (HCQ.out.mono (Nat.le_refl _) (by simp))⟩
                · show (ups its' _).map It.ab = _
                  rw [ups_ab, List.take_add_one, HX.out]
                  show _ = stepC sq (its.map It.ab) (l.take k ++ [⟨kx, vx, gx⟩])
                  rw [stepC_append, ← hab.out]
                  show upA _ kx (vs ++ _) = upA _ kx (_ ++ _)
                  rw [← HVS.out]
                · have hsrt : Srt its' := by obtain ⟨_, _, _, _, _, hs⟩ := HSTP.out; exact hs.srt
                  rw [ups_length hsrt]
                  split <;> omega
              case measure => simp [intOf]; omega
            · obtain rfl : k = n := by omega
              go_wp2_with fail
              go_ret
              unfold ComSt
              rw [HOK.out]
              have hab' := hab.out
              rw [← HLN.out, List.take_length] at hab'
              exact ⟨⟨sq, tm, cao, _, ccap, l⟩, its', rfl, rfl, rfl, rfl, hst.out, hab', hch.out⟩

end Go.Proofs.Ytkgggioldpnfaaa
