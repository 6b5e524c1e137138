/-
  rec.State.Encode
-/
import Derived.Test.YtkgggioldpnfaaaRec2
import Derived.Deep.RegionHeld3
namespace Go.Mb
open Go.RowKit Go.Proofs.Ytkgggioldpnfaaa
def encC (sq : Int) (bl : List Wr) (cs : List Com) : List Value := numC sq.toNat ++ writesC bl ++ numC cs.length ++ cs.flatMap fun c => cmC c.seq c.tm c.ws
def EncSt (sq : Int) (bl : List Wr) (cs : List Com) (w : World) (e : Ending) (w' : World) : Prop :=
  (if stateB sq bl cs then e = .returned (.tuple #[.string (bytesOf (encC sq bl cs)), .int .i64 0]) else e = .returned (.tuple #[.string ⟨#[]⟩, .int .i64 1])) ∧ Below w.heap.size w w'
theorem okAt_facts {sq : Int} {cs : List Com} {i : Nat} {c : Com} (hs : 0 ≤ sq) (h : okAt sq cs i = true) (hc : cs[i]? = some c) : 0 ≤ c.seq ∧ c.seq ≤ 1099511627776 ∧ 0 ≤ c.tm ∧ c.tm ≤ 1099511627776 ∧ rightB c.ws = true := by
  unfold okAt at h
  rw [hc] at h
  simp only [Bool.and_eq_true, decide_eq_true_eq, atB] at h
  obtain ⟨⟨⟨⟨h1, h2⟩, h3, h4⟩, h5⟩, _⟩ := h
  exact ⟨by omega, h2, h3, h4, h5⟩
theorem comsB_at {sq : Int} {cs : List Com} {i : Nat} (h : comsB sq cs = true) (hi : i < cs.length) : okAt sq cs i = true := by
  unfold comsB at h
  rw [List.all_eq_true] at h
  exact h i (by simpa using hi)
theorem newB_facts {sq : Int} {bl : List Wr} (h : newB sq bl = true) : 0 ≤ sq ∧ sq ≤ 1099511627776 ∧ ∀ x ∈ bl, x.key.size ≤ 400 ∧ x.val.size ≤ 4096 := by
  unfold newB at h
  simp only [Bool.and_eq_true, decide_eq_true_eq] at h
  obtain ⟨⟨⟨h1, h2⟩, h3⟩, _⟩ := h
  refine ⟨h1, h2, fun x hx => ?_⟩
  obtain ⟨i, hi⟩ := List.getElem?_of_mem hx
  have hb : badAt bl i = false := by
    cases hc : badAt bl i with
    | false => rfl
    | true => have := risesB_no (List.getElem?_eq_some_iff.1 hi).1 hc; rw [h3] at this; cases this
  rw [badAt_eq hi] at hb
  simp only [Bool.or_eq_false_iff, wrBad, decide_eq_false_iff_not] at hb
  have h1 := hb.1.1.1.2
  have h2 := hb.1.1.2
  omega
theorem allB_enc {sq : Int} {bl : List Wr} {cs : List Com} (h : stateB sq bl cs = true) (hb : bl.length ≤ 1000000) (hc : cs.length ≤ 1000000) : allB (encC sq bl cs) := by
  unfold stateB at h
  simp only [Bool.and_eq_true] at h
  obtain ⟨h1, h2⟩ := h
  obtain ⟨a, b, c⟩ := newB_facts h1
  refine allB_append (allB_append (allB_append (allB_num (by omega)) (allB_writes hb c)) (allB_num (by omega))) ?_
  intro v hv
  obtain ⟨x, hx, hv⟩ := List.mem_flatMap.1 hv
  obtain ⟨i, hi⟩ := List.getElem?_of_mem hx
  obtain ⟨p1, p2, p3, p4, p5⟩ := okAt_facts a (comsB_at h2 (List.getElem?_eq_some_iff.1 hi).1) hi
  exact allB_cm p5 (by omega) (by omega) v hv
end Go.Mb
namespace Go.Proofs.Ytkgggioldpnfaaa
open Go.RowKit Go.Mb
set_option maxHeartbeats 2000000 in
set_option maxRecDepth 100000 in
theorem encode_any (B : Nat) (sq : Int) (bao : Option Addr) (bn bcap : Nat) (bl : List Wr) (cao : Option Addr) (cn ccap : Nat) (cs : List Com) (w : World) (hbl : RdW B w bao bn bcap bl) (hcs : RdC B w cao cn ccap cs) (hB : B ≤ w.heap.size)
    (hN : bn + 1 + 200 * cn ≤ 900000) (hbig : stateB sq bl cs = true → (encC sq bl cs).length ≤ 1000000000) :
    Calls Try.prog 13 #[.agg #[.int .i64 sq, .slice bao bn bcap, .slice cao cn ccap]] w (EncSt sq bl cs w) := by
  have hln := hcs.len
  have hbn : bl.length = bn := by simpa using hbl.len
  have hcle := hcs.row.le
  have hmax := hcs.row.max
  unfold maxLen at hmax
  obtain ⟨W0, hW0⟩ : ∃ W, W = w.alloc (Obj.cells #[.int .i64 sq, .slice bao bn bcap, .slice cao cn ccap] 25) := ⟨_, rfl⟩
  obtain ⟨g, hg⟩ : ∃ g, g = w.heap.size := ⟨_, rfl⟩
  have hblk : Blk W0 g 25 #[.int .i64 sq, .slice bao bn bcap, .slice cao cn ccap] := by rw [hW0, hg]; exact Blk.new _ _ _
  have hb0 : Below w.heap.size w W0 := by rw [hW0]; exact (Below.refl _ _).alloc (Nat.le_refl _) _
  have c0 : W0.cell? ⟨g, 0, none⟩ = some (.int .i64 sq) := hblk.cell 0
  have c1 : W0.cell? ⟨g, 1, none⟩ = some (.slice bao bn bcap) := hblk.cell 1
  have c2 : W0.cell? ⟨g, 2, none⟩ = some (.slice cao cn ccap) := hblk.cell 2
  have hrd0 : RdW B W0 bao bn bcap bl := hbl.below (hb0.mono hB)
  have hrc0 : RdC B W0 cao cn ccap cs := hcs.below (hb0.mono hB)
  have hsz : w.heap.size ≤ W0.heap.size := hb0.size
  have hBW : B ≤ W0.heap.size := by omega
  have HSS := Lib.hid (state_store B sq bao bn bcap bl cao cn ccap cs W0 hrd0 hrc0 hBW hN)
  have HLN := Lib.hid hln
  have HBN := Lib.hid hbn
  have HW := Lib.hid hW0
  have HGG := Lib.hid hg
  have HBK := Lib.hid hblk
  have HB0 := Lib.hid hb0
  have HRD := Lib.hid hrd0
  have HRC := Lib.hid hrc0
  have HBIG := Lib.hid hbig
  clear hln hbn hW0 hg hblk hb0 hrd0 hrc0 hbl hcs hbig
  go_enter Try.func13, Try.ntmps13
  go_wp2_with fail
  rw [← HW.out, ← HGG.out]
  go_wp2_with fail
  refine (HSS.out).mono ?_
  rintro e w1 hs1
  unfold StoreSt at hs1
  cases hok : stateB sq bl cs with
  | false =>
    rw [hok] at hs1
    obtain ⟨rfl, hb1⟩ := hs1
    have HOK := Lib.hid hok
    clear hok
    go_wp2_with fail
    go_ret2
    exact ⟨by rw [HOK.out]; rfl, HB0.out.trans (hb1.mono hsz)⟩
  | true =>
    rw [hok] at hs1
    obtain ⟨S, hist, its, rfl, _, _, _, hb1⟩ := hs1
    have HOK := Lib.hid hok
    have hd := HBK.out.chg (Chg.of_below hb1 0 []) (.inr (by simp))
    have d0 : w1.cell? ⟨g, 0, none⟩ = some (.int .i64 sq) := hd.cell 0
    have d1 : w1.cell? ⟨g, 1, none⟩ = some (.slice bao bn bcap) := hd.cell 1
    have hb2 : Below w.heap.size w w1 := HB0.out.trans (hb1.mono hsz)
    have HB2 := Lib.hid hb2
    have HRD1 : Hid (RdW B w1 bao bn bcap bl) := HRD.out.below (hb1.mono hBW)
    have HRC1 : Hid (RdC B w1 cao cn ccap cs) := HRC.out.below (hb1.mono hBW)
    have HBK1 := Lib.hid hd
    have hBw1 : B ≤ w1.heap.size := Nat.le_trans hB hb2.size
    have hst := hok
    unfold stateB at hst
    simp only [Bool.and_eq_true] at hst
    obtain ⟨hnb, hcb⟩ := hst
    obtain ⟨s0, s1, hsm⟩ := newB_facts hnb
    have HCB := Lib.hid hcb
    have hlen := HBIG.out hok
    have hl0 : (numC sq.toNat).length ≤ 1000000000 := by unfold encC at hlen; simp only [List.length_append] at hlen; omega
    have hl1 : (numC sq.toNat ++ writesC bl).length ≤ 1000000000 := by unfold encC at hlen; simp only [List.length_append] at hlen ⊢; omega
    have hl2 : (numC sq.toNat ++ writesC bl ++ numC cs.length).length ≤ 1000000000 := by unfold encC at hlen; simp only [List.length_append] at hlen ⊢; omega
    have HLE := Lib.hid hlen
    have L0 := Lib.hid hl0
    have L1 := Lib.hid hl1
    have L2 := Lib.hid hl2
    have HBE : Hid (BOwn w1.heap.size (.slice none 0 0) [] w1.drew) := ⟨rfl, .inl ⟨rfl, rfl⟩⟩
    clear hok hd hb1 hb2 hnb hcb hsm hlen hl0 hl1 hl2 c0 c1 c2
    go_wp2_with fail
    go_region_held3 (fun w' => w'.cell? ⟨g, 0, none⟩ = some (.int .i64 sq) ∧ w'.cell? ⟨g, 1, none⟩ = some (.slice bao bn bcap)) (go_keep)
      ((first
        | (go_at_call_of 32 (Value.int .i64 sq); refine (num_b w1.heap.size (.slice none 0 0) [] sq _ (by exact HBE.out) (by exact Nat.le_refl _) (by exact Nat.zero_le _) s0 (by omega)).mono ?_; rintro e wa ⟨va, rfl, hoa, hca⟩; have KA := Lib.hid (HBK1.out.chg ((Chg.drew w1.heap.size [5] w1).trans hca) (.inr (by decide))); have ca0 : wa.cell? ⟨g, 0, none⟩ = some (.int .i64 sq) := KA.out.cell 0; have ca1 : wa.cell? ⟨g, 1, none⟩ = some (.slice bao bn bcap) := KA.out.cell 1; have HOA := Lib.hid hoa; have HCA := Lib.hid ((Chg.drew w1.heap.size [5] w1).trans hca); clear hoa hca)
        | (go_at_call 31; go_must (refine (writes_any w1.heap.size B va ([] ++ numC sq.toNat) bao bn bcap bl _ (by exact HOA.out) (by exact HCA.out.size) (by exact HRD1.out.below ((HCA.out.below (Nat.le_refl _)).mono hBw1)) hBw1 (by exact L1.out)).mono ?_; rintro e wb ⟨vb, rfl, hob, hcb⟩; have KB := Lib.hid (KA.out.chg hcb (.inr (by decide))); have cb0 : wb.cell? ⟨g, 0, none⟩ = some (.int .i64 sq) := KB.out.cell 0; have cb1 : wb.cell? ⟨g, 1, none⟩ = some (.slice bao bn bcap) := KB.out.cell 1; have HOB := Lib.hid hob; have HCB2 := Lib.hid (HCA.out.trans hcb); clear hob hcb))))
    have k2 : wb.cell? ⟨g, 2, none⟩ = some (.slice cao cn ccap) := KB.out.cell 2
    go_wp2_with fail
    refine (num_b w1.heap.size vb ([] ++ numC sq.toNat ++ writesC bl) cn _ HOB.out (HCB2.out.size) (by exact L1.out) (by omega) (by omega)).mono ?_
    rintro e wd ⟨vd, rfl, hod, hcd⟩
    have KDD := HBK1.out.chg (HCB2.out.trans hcd) (.inr (by decide))
    have k3 : wd.cell? ⟨g, 2, none⟩ = some (.slice cao cn ccap) := KDD.cell 2
    have hod' : BOwn w1.heap.size vd (numC sq.toNat ++ writesC bl ++ numC cs.length) wd := by rw [HLN.out]; simpa using hod
    have HOD := Lib.hid hod'
    have HCD := Lib.hid (HCB2.out.trans hcd)
    have HS0 := Lib.hid s0
    clear hod hod' hcd KDD k2 cb0 cb1 ca0 ca1 d0 d1
    dsimp only
    go_wp2_with fail
    go_loopw [6, 8, 30] (fun v _ j wr => ∃ k : Nat, j = .int .i64 k ∧ k ≤ cn ∧ Hid (BOwn w1.heap.size v (numC sq.toNat ++ writesC bl ++ numC cs.length ++ (cs.take k).flatMap fun c => cmC c.seq c.tm c.ws) wr) ∧ Hid (Chg w1.heap.size [5] w1 wr)) (fun _ _ j _ => cn - (intOf j).toNat)
    case atStart => exact ⟨0, rfl, Nat.zero_le _, (by have := HOD.out; simpa using this : BOwn w1.heap.size vd _ wd), HCD.out⟩
    case round =>
      obtain ⟨k, rfl, hk, ho, hch⟩ := hrel
      by_cases hlt : k < cn
      · have hrc := HRC1.out.below ((hch.out.below (Nat.le_refl _)).mono hBw1)
        obtain ⟨b, off, hcao, hb, hc⟩ := hrc.row.cells (by omega)
        obtain ⟨x, hx⟩ : ∃ x, cs[k]? = some x := ⟨cs[k]'(by rw [HLN.out]; omega), List.getElem?_eq_getElem _⟩
        obtain ⟨h0, h1', h2'⟩ := hrc.at_ hx hcao
        have hws := hrc.ws x (List.mem_of_getElem? hx)
        obtain ⟨p1, p2, p3, p4, p5⟩ := okAt_facts HS0.out (comsB_at HCB.out (List.getElem?_eq_some_iff.1 hx).1) hx
        have htake : (cs.take (k + 1)).flatMap (fun c => cmC c.seq c.tm c.ws) = (cs.take k).flatMap (fun c => cmC c.seq c.tm c.ws) ++ cmC x.seq x.tm x.ws := by
          rw [List.take_add_one, hx]; simp
        have hlen : (numC sq.toNat ++ writesC bl ++ numC cs.length ++ (cs.take k).flatMap (fun c => cmC c.seq c.tm c.ws) ++ cmC x.seq x.tm x.ws).length ≤ 1000000000 := by
          have hg := HLE.out
          have hsub : ((cs.take (k + 1)).flatMap fun c => cmC c.seq c.tm c.ws).length ≤ (cs.flatMap fun c => cmC c.seq c.tm c.ws).length := by
            conv => rhs; rw [← List.take_append_drop (k + 1) cs]
            simp only [List.flatMap_append, List.length_append]; omega
          rw [htake] at hsub
          unfold encC at hg
          simp only [List.length_append] at hg hsub ⊢
          omega
        obtain ⟨xs, xt, xao, xn, xcap, xl⟩ := x
        simp only at h0 h1' h2' hws p1 p2 p3 p4 p5 htake hlen
        subst hcao
        have hbr : Below wr.heap.size wr (wr.alloc (Obj.cells #[.int .i64 xs, .int .i64 xt, .slice xao xn xcap] 28)) := (Below.refl _ _).alloc (Nat.le_refl _) _
        have hwr1 : w1.heap.size ≤ wr.heap.size := hch.out.size
        have hcom := commitEnc_any w1.heap.size B u6 (numC sq.toNat ++ writesC bl ++ numC cs.length ++ (cs.take k).flatMap fun c => cmC c.seq c.tm c.ws) xs xt xao xn xcap xl (wr.alloc (Obj.cells #[.int .i64 xs, .int .i64 xt, .slice xao xn xcap] 28)) (own_below ho.out hbr) (Nat.le_trans hwr1 hbr.size) (hws.below (hbr.mono (by omega))) hBw1 hlen p1 (by omega) p3 (by omega)
        have HCOM := Lib.hid hcom
        have HTK := Lib.hid htake
        have HCA2 : Hid (Chg w1.heap.size [5] w1 (wr.alloc (Obj.cells #[.int .i64 xs, .int .i64 xt, .slice xao xn xcap] 28))) := hch.out.trans (Chg.of_below hbr _ _)
        clear hc hws hx hbr hcom htake hlen hrc p1 p2 p3 p4 p5
        go_wp2_with fail
        refine (HCOM.out).mono ?_
        rintro e w2 ⟨v2, rfl, ho2, hc2⟩
        have HO2 := Lib.hid ho2
        have HC2 := Lib.hid hc2
        clear ho2 hc2
        go_wp2_with fail
        go_roundw
        case rel =>
          refine ⟨k + 1, by go_num, by omega, ?_, HCA2.out.trans HC2.out⟩
          have := HO2.out
          show BOwn _ _ (_ ++ _) _
          rw [HTK.out, ← List.append_assoc]
          exact this
        case measure => simp [intOf]; omega
      · obtain rfl : k = cn := by omega
        have ho' := ho.out
        rw [← HLN.out, List.take_length] at ho'
        have hpos : 0 < (encC sq bl cs).length := by unfold encC; simp only [List.length_append, numC_length]; omega
        have hcv := conv_own ho' (allB_enc HOK.out (by rw [HBN.out]; omega) (by rw [HLN.out]; omega)) hpos
        obtain ⟨sb, hsb⟩ : ∃ sb, sb = bytesOf (encC sq bl cs) := ⟨_, rfl⟩
        have hsb' : bytesOf (numC sq.toNat ++ writesC bl ++ numC cs.length ++ cs.flatMap fun c => cmC c.seq c.tm c.ws) = sb := hsb.symm
        rw [hsb'] at hcv
        have HSB := Lib.hid hsb
        clear hsb hsb'
        have hend : Below w.heap.size w wr := HB2.out.trans ((hch.out.below (Nat.le_refl _)).mono HB2.out.size)
        have HEND := Lib.hid hend
        clear ho' hpos hend
        go_wp2_with fail
        go_ret2
        exact ⟨by rw [HOK.out, ← HSB.out]; rfl, HEND.out⟩
end Go.Proofs.Ytkgggioldpnfaaa
