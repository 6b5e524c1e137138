/-
  (*Store).Commit, all ways; rec.State.Store
-/
import Derived.Test.YtkgggioldpnfaaaSto6
namespace Go.Mb
open Go.RowKit Go.Proofs.Ytkgggioldpnfaaa
structure RdC (B : Nat) (w : World) (ao : Option Addr) (n cap : Nat) (cs : List Com) : Prop where
  row : Rd 3 B w ao n cap (cs.map Com.cells)
  ws : ∀ c ∈ cs, RdW B w c.ao c.n c.cap c.ws
theorem RdC.below {B : Nat} {w w' : World} {ao : Option Addr} {n cap : Nat} {cs : List Com} (h : RdC B w ao n cap cs) (hb : Below B w w') : RdC B w' ao n cap cs := ⟨h.row.below hb, fun c hc => (h.ws c hc).below hb⟩
theorem RdC.len {B : Nat} {w : World} {ao : Option Addr} {n cap : Nat} {cs : List Com} (h : RdC B w ao n cap cs) : cs.length = n := by simpa using h.row.len
theorem RdC.at_ {B : Nat} {w : World} {ao : Option Addr} {n cap : Nat} {l : List Com} (h : RdC B w ao n cap l) {i : Nat} {x : Com} (hx : l[i]? = some x) {b off : Nat} (e : ao = some ⟨b, off, none⟩) :
    w.cell? ⟨b, off + i * 3, none⟩ = some (.int .i64 x.seq) ∧ w.cell? ⟨b, off + i * 3 + 1, none⟩ = some (.int .i64 x.tm) ∧ w.cell? ⟨b, off + i * 3 + 2, none⟩ = some (.slice x.ao x.n x.cap) := by
  have hi : i < l.length := (List.getElem?_eq_some_iff.1 hx).1
  obtain ⟨b', off', e', _, hc⟩ := h.row.cells (by have := h.len; omega)
  rw [e] at e'
  cases e'
  have hm : (l.map Com.cells)[i]? = some x.cells := by simp [hx]
  exact ⟨hc i _ hm 0 _ rfl, hc i _ hm 1 _ rfl, hc i _ hm 2 _ rfl⟩
theorem TrAt.base_le {base base' : Nat} {w : World} {cs : Array Value} {o : Nat} {c : Int} {fs : List Lf} {lo : Option Addr} {lcap : Nat} (h : TrAt base w cs o c fs lo lcap) (hb : base' ≤ base) : TrAt base' w cs o c fs lo lcap :=
  ⟨h.cell0, h.cell1, own_mono h.rows hb, fun f hf => ⟨own_mono (h.leaf f hf).1 hb, (h.leaf f hf).2⟩, fun f hf x hx => ⟨own_mono (h.its f hf x hx).1 hb, (h.its f hf x hx).2⟩, h.apart⟩
theorem StoreAt.base_le {base base' S : Nat} {w : World} {low : Int} {hist : List Com} {its : List It} {N : Nat} (h : StoreAt base S w low hist its N) (hb : base' ≤ base) : StoreAt base' S w low hist its N := by
  obtain ⟨fs, lo, lcap, hao, hcap, h⟩ := h
  exact ⟨fs, lo, lcap, hao, hcap, h.blk, h.tree.base_le hb, h.flt, own_mono h.hrow hb, fun c hc => ⟨own_mono (h.coms c hc).1 hb, (h.coms c hc).2⟩, h.srt, h.few, Nat.le_trans hb h.hb, h.low0, h.lastv⟩
def Com.ab (c : Com) : Int × Int × List Wr := (c.seq, c.tm, c.ws)
/-- does the commit at place i follow those ahead of it? -/
def okAt (sq : Int) (cs : List Com) (i : Nat) : Bool :=
  match cs[i]? with
  | none => true
  | some c => decide (c.seq = sq + i + 1) && decide (c.seq ≤ 1099511627776) && atB c.tm && rightB c.ws && (decide (i = 0) || (match cs[i - 1]? with | none => true | some p => decide (p.tm ≤ c.tm)))
def comsB (sq : Int) (cs : List Com) : Bool := (List.range cs.length).all (okAt sq cs)
def stateB (sq : Int) (bl : List Wr) (cs : List Com) : Bool := newB sq bl && comsB sq cs
def treeA (sq : Int) (bl : List Wr) (cs : List Com) : AT := cs.foldl (fun t c => stepC c.seq t c.ws) (baseA sq bl)
theorem okAt_eq {low : Int} {hist cs : List Com} {k : Nat} {c : Com} (h : hist.map Com.ab = (cs.take k).map Com.ab) (hc : cs[k]? = some c) : comB low hist c.seq c.tm c.ws = okAt low cs k := by
  have hk := (List.getElem?_eq_some_iff.1 hc).1
  have hl : hist.length = k := by
    have := congrArg List.length h
    simp only [List.length_map, List.length_take] at this
    omega
  unfold comB okAt
  rw [hc, hl]
  congr 1
  unfold lastOk
  rcases Nat.eq_zero_or_pos k with rfl | h0
  · obtain rfl := List.eq_nil_of_length_eq_zero hl
    rfl
  · have h1 : (hist.map Com.ab)[k - 1]? = ((cs.take k).map Com.ab)[k - 1]? := by rw [h]
    rw [List.getElem?_map, List.getElem?_map, List.getElem?_take, if_pos (by omega)] at h1
    rw [List.getLast?_eq_getElem?, hl]
    have hd : decide (k = 0) = false := decide_eq_false (by omega)
    rw [hd, Bool.false_or]
    cases h2 : cs[k - 1]? with
    | none => rw [h2] at h1; simp at h1; rw [List.getElem?_eq_none h1]
    | some p =>
      rw [h2] at h1
      cases h3 : hist[k - 1]? with
      | none => rw [h3] at h1; simp at h1
      | some q =>
        rw [h3] at h1
        simp [Com.ab] at h1
        show decide (q.tm ≤ c.tm) = decide (p.tm ≤ c.tm)
        rw [h1.2.1]
theorem comsB_no {sq : Int} {cs : List Com} {i : Nat} (hi : i < cs.length) (h : okAt sq cs i = false) : comsB sq cs = false := by
  rw [Bool.eq_false_iff]
  intro hc
  unfold comsB at hc
  rw [List.all_eq_true] at hc
  have := hc i (by simpa using hi)
  rw [h] at this
  cases this
theorem comsB_yes {sq : Int} {cs : List Com} (h : ∀ i, i < cs.length → okAt sq cs i = true) : comsB sq cs = true := by
  unfold comsB
  rw [List.all_eq_true]
  intro i hi
  exact h i (by simpa using hi)
def StoreSt (sq : Int) (bl : List Wr) (cs : List Com) (N : Nat) (w : World) (e : Ending) (w' : World) : Prop :=
  if stateB sq bl cs then ∃ S hist its, e = .returned (.tuple #[.pointer (some ⟨S, 0, none⟩), .int .i64 0]) ∧ StoreAt w.heap.size S w' sq hist its N ∧ hist.map Com.ab = cs.map Com.ab ∧ its.map It.ab = treeA sq bl cs ∧ Below w.heap.size w w'
  else e = .returned (.tuple #[.pointer none, .int .i64 1]) ∧ Below w.heap.size w w'
theorem StoreSt.no {sq : Int} {bl : List Wr} {cs : List Com} {N : Nat} {w : World} {e : Ending} {w' : World} (h : stateB sq bl cs = false) (h1 : e = .returned (.tuple #[.pointer none, .int .i64 1])) (h2 : Below w.heap.size w w') : StoreSt sq bl cs N w e w' := by
  unfold StoreSt; rw [h]; exact ⟨h1, h2⟩
end Go.Mb
namespace Go.Proofs.Ytkgggioldpnfaaa
open Go.RowKit Go.Mb
theorem com_any (B : Nat) (base S : Nat) (low : Int) (hist : List Com) (its : List It) (N : Nat) (sq tm : Int) (ao : Option Addr) (n cap : Nat) (l : List Wr) (w : World) (hst : StoreAt base S w low hist its N) (hN : N ≤ 900000)
    (h : RdW B w ao n cap l) (hB : B ≤ w.heap.size) :
    Calls Try.prog 25 #[.pointer (some ⟨S, 0, none⟩), .agg #[.int .i64 sq, .int .i64 tm, .slice ao n cap]] w (ComSt base S low hist its N sq tm l w) := by
  cases hb : (decide (sq = low + hist.length + 1) && decide (sq ≤ 1099511627776) && atB tm) with
  | false => exact com_bad B base S low hist its N sq tm ao n cap l w hst hN h hB hb
  | true => exact com_good B base S low hist its N sq tm ao n cap l w hst hN h hB hb

set_option maxHeartbeats 2000000 in
set_option maxRecDepth 100000 in
theorem state_store (B : Nat) (sq : Int) (bao : Option Addr) (bn bcap : Nat) (bl : List Wr) (cao : Option Addr) (cn ccap : Nat) (cs : List Com) (w : World) (hbl : RdW B w bao bn bcap bl) (hcs : RdC B w cao cn ccap cs) (hB : B ≤ w.heap.size)
    (hN : bn + 1 + 200 * cn ≤ 900000) :
    Calls Try.prog 12 #[.agg #[.int .i64 sq, .slice bao bn bcap, .slice cao cn ccap]] w (StoreSt sq bl cs (bn + 1 + 200 * cn) w) := by
  have hln := hcs.len
  have hcle := hcs.row.le
  have hmax := hcs.row.max
  unfold maxLen at hmax
  obtain ⟨W0, hW0⟩ : ∃ W, W = w.alloc (Obj.cells #[.int .i64 sq, .slice bao bn bcap, .slice cao cn ccap] 25) := ⟨_, rfl⟩
  obtain ⟨g, hg⟩ : ∃ g, g = w.heap.size := ⟨_, rfl⟩
  have hblk : Blk W0 g 25 #[.int .i64 sq, .slice bao bn bcap, .slice cao cn ccap] := by rw [hW0, hg]; exact Blk.new _ _ _
  have hb0 : Below w.heap.size w W0 := by rw [hW0]; exact (Below.refl _ _).alloc (Nat.le_refl _) _
  have c0 : W0.cell? ⟨g, 0, none⟩ = some (.int .i64 sq) := hblk.cell 0
  have c1 : W0.cell? ⟨g, 1, none⟩ = some (.slice bao bn bcap) := hblk.cell 1
  have c2 : W0.cell? ⟨g, 2, none⟩ = some (.slice cao cn ccap) := hblk.cell 2
  have hrd0 : RdW B W0 bao bn bcap bl := hbl.below (hb0.mono hB)
  have hrc0 : RdC B W0 cao cn ccap cs := hcs.below (hb0.mono hB)
  have hsz : w.heap.size ≤ W0.heap.size := hb0.size
  have hBW : B ≤ W0.heap.size := by omega
  have HLN := Lib.hid hln
  have HW := Lib.hid hW0
  have HGG := Lib.hid hg
  have HBK := Lib.hid hblk
  have HB0 := Lib.hid hb0
  have HRD := Lib.hid hrd0
  have HRC := Lib.hid hrc0
  clear hln hW0 hg hblk hb0 hrd0 hrc0 hbl hcs
  go_enter Try.func12, Try.ntmps12
  go_wp2_with fail
  rw [← HW.out, ← HGG.out]
  go_wp2_with fail
  refine (new_any B sq bao bn bcap bl _ HRD.out hBW (bn + 1) (Nat.le_refl _) (by omega)).mono ?_
  rintro e w1 hnew
  unfold NewSt at hnew
  cases hnb : newB sq bl with
  | false =>
    rw [hnb] at hnew
    obtain ⟨rfl, hb1⟩ := hnew
    have HNB := Lib.hid hnb
    clear hnb
    go_wp2_with fail
    go_ret2
    exact StoreSt.no (by unfold stateB; rw [HNB.out]; rfl) rfl (HB0.out.trans (hb1.mono hsz))
  | true =>
    rw [hnb] at hnew
    obtain ⟨S, its0, rfl, hst, hab, hb1⟩ := hnew
    have hb2 : Below w.heap.size w w1 := HB0.out.trans (hb1.mono hsz)
    have d2 : w1.cell? ⟨g, 2, none⟩ = some (.slice cao cn ccap) := (HBK.out.chg (Chg.of_below hb1 0 []) (.inr (by simp))).cell 2
    have HST0 : Hid (StoreAt w.heap.size S w1 sq [] its0 (bn + 1)) := hst.base_le hsz
    have HAB0 := Lib.hid hab
    have HB2 := Lib.hid hb2
    have HRC2 : Hid (RdC B w1 cao cn ccap cs) := HRC.out.below (hb1.mono hBW)
    have HNB := Lib.hid hnb
    clear hst hab hb2 hb1 hnb c0 c1 c2
    go_wp2_with fail
    go_loopw [7, 8, 23] (fun _ _ j wr => ∃ k : Nat, j = .int .i64 k ∧ k ≤ cn ∧ ∃ hist its, Hid (StoreAt w.heap.size S wr sq hist its (bn + 1 + 200 * k)) ∧ Hid (hist.map Com.ab = (cs.take k).map Com.ab) ∧ Hid (its.map It.ab = treeA sq bl (cs.take k)) ∧ Hid (Below w.heap.size w wr) ∧ Hid (∀ i, i < k → okAt sq cs i = true) ∧ Hid (RdC B wr cao cn ccap cs)) (fun _ _ j _ => cn - (intOf j).toNat)
    case atStart => exact ⟨0, rfl, Nat.zero_le _, [], its0, HST0.out, Lib.hid rfl, HAB0.out, HB2.out, Lib.hid (fun i hi => absurd hi (Nat.not_lt_zero _)), HRC2.out⟩
    case round =>
      obtain ⟨k, rfl, hk, hist, its, hst, hh, hi, hbl, hok, hrc⟩ := hrel
      by_cases hlt : k < cn
      · obtain ⟨b, off, rfl, hb, hc⟩ := hrc.out.row.cells (by omega)
        obtain ⟨x, hx⟩ : ∃ x, cs[k]? = some x := ⟨cs[k]'(by rw [HLN.out]; omega), List.getElem?_eq_getElem _⟩
        obtain ⟨h0, h1', h2'⟩ := hrc.out.at_ hx rfl
        have hws := hrc.out.ws x (List.mem_of_getElem? hx)
        have hcomb := okAt_eq (low := sq) hh.out hx
        obtain ⟨xs, xt, xao, xn, xcap, xl⟩ := x
        simp only at h0 h1' h2' hws hcomb
        have hbr : Below wr.heap.size wr (wr.alloc (Obj.cells #[.int .i64 xs, .int .i64 xt, .slice xao xn xcap] 28)) := (Below.refl _ _).alloc (Nat.le_refl _) _
        have hBr : B ≤ wr.heap.size := Nat.le_trans hB hbl.out.size
        have hcom := com_any B w.heap.size S sq hist its (bn + 1 + 200 * k) xs xt xao xn xcap xl _ (hst.out.below hbr) (by omega) (hws.below (hbr.mono hBr)) (Nat.le_trans hBr hbr.size)
        have HCOM := Lib.hid hcom
        have HX := Lib.hid hx
        have HCB := Lib.hid hcomb
        have HBR := Lib.hid hbr
        clear hc hws hcomb hx hbr hcom
        go_wp2_with fail
        refine (HCOM.out).mono ?_
        rintro e w2 hc2
        unfold ComSt at hc2
        rw [HCB.out] at hc2
        cases hokk : okAt sq cs k with
        | false =>
          rw [hokk] at hc2
          obtain ⟨rfl, hb2⟩ := hc2
          have HOKK := Lib.hid hokk
          clear hokk
          go_wp2_with fail
          go_ret2
          exact StoreSt.no (by unfold stateB; rw [comsB_no (by rw [HLN.out]; exact hlt) HOKK.out]; simp) rfl (hbl.out.trans ((HBR.out.trans (hb2.mono HBR.out.size)).mono hbl.out.size))
        | true =>
          rw [hokk] at hc2
          obtain ⟨c, its', rfl, e1, e2, e3, hst2, hab2, hch2⟩ := hc2
          have HOKK := Lib.hid hokk
          have E1 := Lib.hid e1
          have E2 := Lib.hid e2
          have E3 := Lib.hid e3
          have HST2 := Lib.hid hst2
          have HAB2 := Lib.hid hab2
          have hb2 : Below w.heap.size w w2 := (hbl.out.trans (HBR.out.mono hbl.out.size)).trans (hch2.below (Nat.le_trans hbl.out.size HBR.out.size))
          have hrc2 : RdC B w2 (some ⟨b, off, none⟩) cn ccap cs := (hrc.out.below (HBR.out.mono hBr)).below ((hch2.below (Nat.le_trans hbl.out.size HBR.out.size)).mono hB)
          have HB2' := Lib.hid hb2
          have HRC3 := Lib.hid hrc2
          clear hokk e1 e2 e3 hst2 hab2 hch2 hb2 hrc2
          go_wp2_with fail
          go_roundw
          case rel =>
            refine ⟨k + 1, by go_num, by omega, hist ++ [c], its', HST2.out, ?_, ?_, HB2'.out, ?_, HRC3.out⟩
            · show (hist ++ [c]).map Com.ab = _
              rw [List.take_add_one, HX.out, List.map_append, List.map_append, hh.out]
              simp [Com.ab, E1.out, E2.out, E3.out]
            · show its'.map It.ab = _
              rw [HAB2.out, hi.out, List.take_add_one, HX.out]
              simp [treeA]
            · show ∀ i, i < k + 1 → _
              intro i hi2
              rcases Nat.lt_or_ge i k with h5 | h5
              · exact hok.out i h5
              · obtain rfl : i = k := by omega
                exact HOKK.out
          case measure => simp [intOf]; omega
      · obtain rfl : k = cn := by omega
        go_wp2_with fail
        go_ret2
        unfold StoreSt
        have hall : stateB sq bl cs = true := by unfold stateB; rw [HNB.out, comsB_yes (fun i hi => hok.out i (by rw [← HLN.out]; exact hi))]; rfl
        rw [hall]
        have hh' := hh.out
        have hi' := hi.out
        rw [← HLN.out, List.take_length] at hh' hi'
        exact ⟨S, hist, its, rfl, hst.out, hh', hi', hbl.out⟩

end Go.Proofs.Ytkgggioldpnfaaa
