/-
  The law RecBad: the walk.
-/
import Derived.Test.YtkgggioldpnfaaaRec3
import Derived.Test.YtkgggioldpnfaaaSt3
import Derived.Test.YtkgggioldpnfaaaCls
import Derived.Deep.RegionHeld3
import Derived.Deep.DeepCutAuto
import Derived.Deep.CutBlock
namespace Go.Mb
open Go.RowKit Go.Proofs.Ytkgggioldpnfaaa
def notGone (l : List Wr) : Bool := l.all fun x => !x.gone
def baseB (sq : Int) (bl : List Wr) : Bool := decide (0 ≤ sq) && decide (sq ≤ 1099511627776) && (risesB bl && decide (bl.length ≤ 200))
def goodTo (sq : Int) (cs : List Com) (k : Nat) : Bool := (List.range k).all (okAt sq cs)
def badGo (cs : List Com) : Prop := ∀ i c, i < cs.length → cs[i]? = some c → c.n ≤ 30
theorem goodTo_succ (sq : Int) (cs : List Com) (k : Nat) : goodTo sq cs (k + 1) = (goodTo sq cs k && okAt sq cs k) := by simp [goodTo, List.range_succ]
theorem flatMap_len {α : Type} (f : α → List Value) (c : Nat) : ∀ (l : List α), (∀ x ∈ l, (f x).length ≤ c) → (l.flatMap f).length ≤ c * l.length := by
  intro l
  induction l with
  | nil => intro _; simp
  | cons a l ih =>
    intro h
    have h1 := ih (fun x hx => h x (List.mem_cons_of_mem _ hx))
    have h2 := h a (List.mem_cons_self ..)
    rw [List.flatMap_cons, List.length_append, List.length_cons, Nat.mul_add, Nat.mul_one]
    omega
theorem enc_small {sq : Int} {bl : List Wr} {cs : List Com} (h : stateB sq bl cs = true) (hb : bl.length ≤ 30) (hc : cs.length ≤ 20) : (encC sq bl cs).length ≤ 1000000000 := by
  unfold stateB at h
  simp only [Bool.and_eq_true] at h
  obtain ⟨h1, h2⟩ := h
  obtain ⟨a, b, c⟩ := newB_facts h1
  have h3 := writesC_len (by omega) c
  have h4 := flatMap_len (fun c => cmC c.seq c.tm c.ws) 1100000 cs (fun x hx => by
    obtain ⟨i, hi⟩ := List.getElem?_of_mem hx
    obtain ⟨p1, p2, p3, p4, p5⟩ := okAt_facts a (comsB_at h2 (List.getElem?_eq_some_iff.1 hi).1) hi
    exact cmC_len p5 (by omega) (by omega))
  have h5 := nsize_le8 sq.toNat (by omega)
  have h6 := nsize_le8 cs.length (by omega)
  have h7 : 1100000 * cs.length ≤ 1100000 * 20 := Nat.mul_le_mul_left _ hc
  unfold encC
  rw [List.length_append, List.length_append, List.length_append, numC_length, numC_length]
  omega
end Go.Mb
namespace Go.Proofs.Ytkgggioldpnfaaa
open Go.RowKit Go.Mb
set_option maxHeartbeats 4000000 in
set_option maxRecDepth 100000 in
theorem recBad_any (B : Nat) (sq : Int) (bao : Option Addr) (bn bcap : Nat) (bl : List Wr) (cao : Option Addr) (cn ccap : Nat) (cs : List Com) (w : World) (hbl : RdW B w bao bn bcap bl) (hcs : RdC B w cao cn ccap cs) (hB : B ≤ w.heap.size) :
    Calls Try.prog 3 #[.agg #[.int .i64 sq, .slice bao bn bcap, .slice cao cn ccap]] w (fun e w' => e = .returned (.bool true) ∧ Below w.heap.size w w') := by
  have hln := hcs.len
  have hbn : bl.length = bn := by simpa using hbl.len
  have hcle := hcs.row.le
  have hmax := hcs.row.max
  have hble := hbl.le
  have hbmax := hbl.max
  unfold maxLen at hmax hbmax
  obtain ⟨W0, hW0⟩ : ∃ W, W = w.alloc (Obj.cells #[.int .i64 sq, .slice bao bn bcap, .slice cao cn ccap] 25) := ⟨_, rfl⟩
  obtain ⟨g, hg⟩ : ∃ g, g = w.heap.size := ⟨_, rfl⟩
  have hblk : Blk W0 g 25 #[.int .i64 sq, .slice bao bn bcap, .slice cao cn ccap] := by rw [hW0, hg]; exact Blk.new _ _ _
  have hb0 : Below w.heap.size w W0 := by rw [hW0]; exact (Below.refl _ _).alloc (Nat.le_refl _) _
  have hrd0 : RdW B W0 bao bn bcap bl := hbl.below (hb0.mono hB)
  have hrc0 : RdC B W0 cao cn ccap cs := hcs.below (hb0.mono hB)
  have hsz : w.heap.size ≤ W0.heap.size := hb0.size
  have hBW : B ≤ W0.heap.size := by omega
  have HLN := Lib.hid hln
  have HBN := Lib.hid hbn
  have HW := Lib.hid hW0
  have HGG := Lib.hid hg
  have HBK := Lib.hid hblk
  have HB0 := Lib.hid hb0
  have HRD := Lib.hid hrd0
  have HRC := Lib.hid hrc0
  clear hln hbn hW0 hg hblk hb0 hrd0 hrc0 hbl hcs
  go_enter Try.func3, Try.ntmps3
  go_wp2_with fail
  rw [← HW.out, ← HGG.out]
  go_wp2_with fail
  refine (head_rec _).mono ?_
  rintro e w1 ⟨rfl, hb1⟩
  have hd := HBK.out.chg (Chg.of_below hb1 0 []) (.inr (by simp))
  have d0 : w1.cell? ⟨g, 0, none⟩ = some (.int .i64 sq) := hd.cell 0
  have d1 : w1.cell? ⟨g, 1, none⟩ = some (.slice bao bn bcap) := hd.cell 1
  have d2 : w1.cell? ⟨g, 2, none⟩ = some (.slice cao cn ccap) := hd.cell 2
  have HB1 : Hid (Below w.heap.size w w1) := HB0.out.trans (hb1.mono hsz)
  have HRD1 : Hid (RdW B w1 bao bn bcap bl) := HRD.out.below (hb1.mono hBW)
  have HRC1 : Hid (RdC B w1 cao cn ccap cs) := HRC.out.below (hb1.mono hBW)
  have HBK1 := Lib.hid hd
  have hBw1 : B ≤ w1.heap.size := Nat.le_trans hBW hb1.size
  clear hd hb1
  by_cases hb30 : bn ≤ 30
  · by_cases hc20 : cn ≤ 20
    · have dd1 : decide ((30 : Int) < (bn : Int)) = false := by simp; omega
      have dd2 : decide ((20 : Int) < (cn : Int)) = false := by simp; omega
      go_wp2_with fail
      go_loopw [4, 29] (fun _ j wr => ∃ k : Nat, j = .int .i64 k ∧ k ≤ cn ∧ Hid (Below w1.heap.size w1 wr) ∧ Hid (∀ i c, i < k → cs[i]? = some c → c.n ≤ 30)) (fun _ j _ => cn - (intOf j).toNat)
      case atStart => exact ⟨0, rfl, Nat.zero_le _, Below.refl _ _, fun i c hi => absurd hi (Nat.not_lt_zero _)⟩
      case round =>
        obtain ⟨k, rfl, hk, hbr, hsm⟩ := hrel
        by_cases hlt : k < cn
        · have hrc := HRC1.out.below (hbr.out.mono hBw1)
          obtain ⟨b, off, hcao, hb, hc⟩ := hrc.row.cells (by omega)
          obtain ⟨x, hx⟩ : ∃ x, cs[k]? = some x := ⟨cs[k]'(by rw [HLN.out]; omega), List.getElem?_eq_getElem _⟩
          obtain ⟨h0, h1', h2'⟩ := hrc.at_ hx hcao
          have hxle := (hrc.ws x (List.mem_of_getElem? hx)).le
          have hxmax := (hrc.ws x (List.mem_of_getElem? hx)).max
          unfold maxLen at hxmax
          obtain ⟨xs, xt, xao, xn, xcap, xl⟩ := x
          simp only at h0 h1' h2' hxle hxmax
          subst hcao
          have HX := Lib.hid hx
          have hsz1 := hbr.out.size
          clear hx hc hrc
          by_cases hn : xn ≤ 30
          · have dd3 : decide ((30 : Int) < (xn : Int)) = false := by simp; omega
            go_wp2_with fail
            go_roundw
            case rel =>
              refine ⟨k + 1, by go_num, by omega, hbr.out.alloc (by omega) _, ?_⟩
              show ∀ i c, i < k + 1 → _
              intro i c hi hc
              rcases Nat.lt_or_ge i k with h5 | h5
              · exact hsm.out i c h5 hc
              · obtain rfl : i = k := by omega
                rw [HX.out] at hc
                cases hc
                exact hn
            case measure => simp [intOf]; omega
          · have hn' : (30 : Int) < (xn : Int) := by omega
            clear hn
            go_wp2_with fail
            go_ret
            exact ⟨rfl, HB1.out.trans ((hbr.out.alloc (by omega) _).mono HB1.out.size)⟩
        · obtain rfl : k = cn := by omega
          have KR := HBK1.out.chg (Chg.of_below hbr.out 0 []) (.inr (by simp))
          have r0 : wr.cell? ⟨g, 0, none⟩ = some (.int .i64 sq) := KR.cell 0
          have r1 : wr.cell? ⟨g, 1, none⟩ = some (.slice bao bn bcap) := KR.cell 1
          have hrdr : RdW B wr bao bn bcap bl := HRD1.out.below (hbr.out.mono hBw1)
          have hBwr : B ≤ wr.heap.size := Nat.le_trans hBw1 hbr.out.size
          have HRDR := Lib.hid hrdr
          clear KR hrdr hlt
          go_upto_region 11 with fail
          go_cut [5] (fun s5 wx => s5 = .bool (baseB sq bl) ∧ Hid (Below w1.heap.size w1 wx))
          case first =>
            by_cases q1 : 0 ≤ sq
            · by_cases q2 : sq ≤ 1099511627776
              · have hbb : baseB sq bl = (risesB bl && decide (bl.length ≤ 200)) := by unfold baseB; simp [q1, q2]
                have HBB := Lib.hid hbb
                clear hbb
                go_wp2_with (go_at_call 11; refine (lawRight_any B bao bn bcap bl _ HRDR.out hBwr).mono ?_; rintro e w2 ⟨rfl, hb2⟩)
                go_meet
                exact ⟨congrArg Value.bool HBB.out.symm, hbr.out.trans (hb2.mono hbr.out.size)⟩
              · have hbb : baseB sq bl = false := by unfold baseB; simp [q2]
                have HBB := Lib.hid hbb
                have q2' : 1099511627776 < sq := by omega
                clear hbb q2
                go_wp2_with fail
                go_meet
                exact ⟨congrArg Value.bool HBB.out.symm, hbr.out⟩
            · have hbb : baseB sq bl = false := by unfold baseB; simp [q1]
              have HBB := Lib.hid hbb
              have q1' : sq < 0 := by omega
              clear hbb q1
              go_wp2_with fail
              go_meet
              exact ⟨congrArg Value.bool HBB.out.symm, hbr.out⟩
          case rest =>
            obtain ⟨rfl, HB3⟩ := hcut
            have KC := HBK1.out.chg (Chg.of_below HB3.out 0 []) (.inr (by simp))
            have k1 : wc.cell? ⟨g, 1, none⟩ = some (.slice bao bn bcap) := KC.cell 1
            clear KC r0 r1 d0 d1 d2
            go_wp2_with fail
            obtain ⟨gb, hgb⟩ : ∃ gb, gb = baseB sq bl := ⟨_, rfl⟩
            rw [← hgb]
            have HGB := Lib.hid hgb
            clear hgb
            go_loopw [5, 7, 54] (fun v _ j wr => ∃ i : Nat, j = .int .i64 i ∧ i ≤ bn ∧ v = .bool (gb && notGone (bl.take i)) ∧ Hid (Below w1.heap.size w1 wr)) (fun _ _ j _ => bn - (intOf j).toNat)
            case atStart => exact ⟨0, rfl, Nat.zero_le _, by simp [notGone], HB3.out⟩
            case round =>
              obtain ⟨i, rfl, hi, rfl, hbr2⟩ := hrel
              by_cases hlt2 : i < bn
              · have hrd := HRD1.out.below (hbr2.out.mono hBw1)
                obtain ⟨b, off, hbao, hb, hc⟩ := hrd.cells (by omega)
                obtain ⟨x, hx⟩ : ∃ x, bl[i]? = some x := ⟨bl[i]'(by rw [HBN.out]; omega), List.getElem?_eq_getElem _⟩
                obtain ⟨h0, h1', h2'⟩ := RdW.at_ hrd hx hbao
                have hnext : (gb && notGone (bl.take (i + 1))) = ((gb && notGone (bl.take i)) && !x.gone) := by
                  unfold notGone
                  rw [List.take_add_one, hx]
                  simp [Bool.and_assoc]
                obtain ⟨kx, vx, gx⟩ := x
                simp only at h0 h1' h2' hnext
                subst hbao
                have HNX := Lib.hid hnext
                have hsz2 := hbr2.out.size
                clear hx hc hrd hnext
                obtain ⟨gg, hgg⟩ : ∃ gg, gg = (gb && notGone (bl.take i)) := ⟨_, rfl⟩
                rw [← hgg]
                have HGG2 := Lib.hid hgg
                clear hgg
                cases gg with
                | false =>
                  go_wp2_with fail
                  go_roundw
                  case rel => exact ⟨i + 1, by go_num, by omega, congrArg Value.bool (by rw [HNX.out, ← HGG2.out]; rfl), hbr2.out.alloc (by omega) _⟩
                  case measure => simp [intOf]; omega
                | true =>
                  go_wp2_with fail
                  go_roundw
                  case rel => exact ⟨i + 1, by go_num, by omega, congrArg Value.bool (by rw [HNX.out, ← HGG2.out]; simp), hbr2.out.alloc (by omega) _⟩
                  case measure => simp [intOf]; omega
              · obtain rfl : i = bn := by omega
                obtain ⟨ga, hga⟩ : ∃ ga, ga = (gb && notGone (bl.take i)) := ⟨_, rfl⟩
                rw [← hga]
                have hga' : ga = (gb && notGone bl) := by rw [hga, ← HBN.out, List.take_length]
                have HGA := Lib.hid hga'
                have KR := HBK1.out.chg (Chg.of_below hbr2.out 0 []) (.inr (by simp))
                have r2 : wr.cell? ⟨g, 2, none⟩ = some (.slice cao k ccap) := KR.cell 2
                clear hga hga' KR
                go_wp2_with fail
                go_loopw [5, 8, 9, 68] (fun v _ _ j wr => ∃ m : Nat, j = .int .i64 m ∧ m ≤ k ∧ v = .bool (ga && goodTo sq cs m) ∧ Hid (Below w1.heap.size w1 wr)) (fun _ _ _ j _ => k - (intOf j).toNat)
                case atStart => exact ⟨0, rfl, Nat.zero_le _, by simp [goodTo], hbr2.out⟩
                case round =>
                  obtain ⟨m, rfl, hm, rfl, hbr3⟩ := hrel
                  by_cases hlt3 : m < k
                  · have hrc := HRC1.out.below (hbr3.out.mono hBw1)
                    obtain ⟨b, off, hcao, hb, hc⟩ := hrc.row.cells (by omega)
                    obtain ⟨x, hx⟩ : ∃ x, cs[m]? = some x := ⟨cs[m]'(by rw [HLN.out]; omega), List.getElem?_eq_getElem _⟩
                    obtain ⟨h0, h1', h2'⟩ := hrc.at_ hx hcao
                    have hws := hrc.ws x (List.mem_of_getElem? hx)
                    have hok : okAt sq cs m = (decide (x.seq = sq + m + 1) && decide (x.seq ≤ 1099511627776) && atB x.tm && rightB x.ws && (decide (m = 0) || (match cs[m - 1]? with | none => true | some p => decide (p.tm ≤ x.tm)))) := by unfold okAt; rw [hx]; rfl
                    have hprev : 0 < m → ∃ p, cs[m - 1]? = some p ∧ wr.cell? ⟨b, off + (m - 1) * 3 + 1, none⟩ = some (.int .i64 p.tm) := fun h0m => by
                      obtain ⟨p, hp⟩ : ∃ p, cs[m - 1]? = some p := ⟨cs[m - 1]'(by rw [HLN.out]; omega), List.getElem?_eq_getElem _⟩
                      exact ⟨p, hp, (hrc.at_ hp hcao).2.1⟩
                    obtain ⟨xs, xt, xao, xn, xcap, xl⟩ := x
                    simp only at h0 h1' h2' hok hws
                    subst hcao
                    have hsz3 := hbr3.out.size
                    have HOK := Lib.hid hok
                    have HPV := Lib.hid hprev
                    have HWS := Lib.hid hws
                    have KR3 := HBK1.out.chg (Chg.of_below hbr3.out 0 []) (.inr (by simp))
                    have HKR3 := Lib.hid KR3
                    obtain ⟨gg, hgg⟩ : ∃ gg, gg = (ga && goodTo sq cs m) := ⟨_, rfl⟩
                    have hgs : (ga && goodTo sq cs (m + 1)) = (gg && okAt sq cs m) := by rw [hgg, goodTo_succ, Bool.and_assoc]
                    have HGS := Lib.hid hgs
                    have hsq : gg = true → 0 ≤ sq ∧ sq ≤ 1099511627776 := fun h => by
                      rw [hgg] at h
                      have h1 := (Bool.and_eq_true _ _ ▸ h : ga = true ∧ _).1
                      rw [HGA.out, HGB.out] at h1
                      simp only [baseB, Bool.and_eq_true, decide_eq_true_eq] at h1
                      exact h1.1.1
                    have HSQ := Lib.hid hsq
                    rw [← hgg]
                    clear hgg hgs hsq hx hc hrc hok hprev hws KR3 r2
                    go_upto_block 5 with fail
                    go_cut [5, 8, 9] (fun s5 _ _ wx => s5 = .bool (gg && okAt sq cs m) ∧ Hid (Below w1.heap.size w1 wx))
                    case first =>
                      go_upto_region 20 with fail
                      obtain ⟨Wx, hWx⟩ : ∃ W, W = wr.alloc (Obj.cells #[.int .i64 xs, .int .i64 xt, .slice xao xn xcap] 28) := ⟨_, rfl⟩
                      obtain ⟨d, hd⟩ : ∃ d, d = wr.heap.size := ⟨_, rfl⟩
                      have hbd : Blk Wx d 28 #[.int .i64 xs, .int .i64 xt, .slice xao xn xcap] := by rw [hWx, hd]; exact Blk.new _ _ _
                      have hbx : Below wr.heap.size wr Wx := by rw [hWx]; exact (Below.refl _ _).alloc (Nat.le_refl _) _
                      have x0 : Wx.cell? ⟨d, 0, none⟩ = some (.int .i64 xs) := hbd.cell 0
                      have x1 : Wx.cell? ⟨d, 1, none⟩ = some (.int .i64 xt) := hbd.cell 1
                      have x2 : Wx.cell? ⟨d, 2, none⟩ = some (.slice xao xn xcap) := hbd.cell 2
                      have kgx := HKR3.out.chg (Chg.of_below hbx 0 []) (.inr (by simp))
                      have z0 : Wx.cell? ⟨g, 0, none⟩ = some (.int .i64 sq) := kgx.cell 0
                      have z2 : Wx.cell? ⟨g, 2, none⟩ = some (.slice (some ⟨b, off, none⟩) k ccap) := kgx.cell 2
                      have hbxx : Below w1.heap.size w1 Wx := hbr3.out.trans (hbx.mono hsz3)
                      have hbq : ∀ q, Below w1.heap.size w1 (Wx.drewN q) := fun q => hbxx.trans ⟨rfl, rfl, rfl, Nat.le_refl _, fun _ _ => rfl⟩
                      have hpv : 0 < m → ∃ p, cs[m - 1]? = some p ∧ Wx.cell? ⟨b, off + (m - 1) * 3 + 1, none⟩ = some (.int .i64 p.tm) := fun h0m => by
                        obtain ⟨p, h1, h2⟩ := HPV.out h0m
                        exact ⟨p, h1, (hbx.cell (show b < wr.heap.size by omega)).trans h2⟩
                      have HPX := Lib.hid hpv
                      have HBX := Lib.hid hbq
                      have HWX : Hid (RdW B Wx xao xn xcap xl) := HWS.out.below (hbx.mono (by omega))
                      have HBD := Lib.hid hbd
                      have HKG := Lib.hid kgx
                      have hBx : B ≤ Wx.heap.size := by have := hbx.size; omega
                      have HXX := Lib.hid hbxx
                      rw [← hWx, ← hd]
                      clear hWx hd hbd hbx kgx hbxx hbq hpv h0 h1' h2' HWS HKR3 HPV
                      have hval : ∀ v : Bool, (gg && okAt sq cs m) = v → Hid ((gg && okAt sq cs m) = v) := fun _ h => h
                      cases gg with
                      | false =>
                        have HV := hval false rfl
                        clear hval
                        go_quiet (fail)
                        go_wp2_with fail
                        go_meet
                        exact ⟨congrArg Value.bool HV.out.symm, HBX.out _⟩
                      | true =>
                        obtain ⟨s0, s1⟩ := HSQ.out rfl
                        have w1' : IntKind.i64.wrap (sq + 1) = sq + 1 := by rw [IntKind.wrap_i64]; omega
                        have w2' : IntKind.i64.wrap (sq + 1 + (m : Int)) = sq + 1 + m := by rw [IntKind.wrap_i64]; omega
                        have hrl : rightB xl = (risesB xl && decide (xl.length ≤ 200)) := by unfold rightB; rw [Bool.and_comm]
                        have hbX : b < Wx.heap.size := by omega
                        by_cases e1 : xs = sq + m + 1
                        · have t1 : (xs == sq + 1 + (m : Int)) = true := by simp; omega
                          by_cases e2 : xs ≤ 1099511627776
                          · have t2 : decide (xs ≤ 1099511627776) = true := by simpa using e2
                            by_cases e3 : 0 ≤ xt
                            · have t3 : decide (0 ≤ xt) = true := by simpa using e3
                              by_cases e4 : xt ≤ 1099511627776
                              · have t4 : decide (xt ≤ 1099511627776) = true := by simpa using e4
                                cases hrr : (risesB xl && decide (xl.length ≤ 200)) with
                                | false =>
                                  have HV := hval false (by rw [HOK.out, hrl, hrr]; simp)
                                  clear hval e1 hrl
                                  have HR1 : Hid (∀ s : In Wx, Calls Try.prog 11 #[.slice xao xn xcap] s.w fun e w' => e = .returned (.bool false) ∧ Below s.w.heap.size s.w w') := fun s => (lawRight_any B xao xn xcap xl _ (HWX.out.below (s.ok.mono hBx)) (Nat.le_trans hBx s.ok.size)).mono (fun e w' h => by rw [hrr] at h; exact h)
                                  have g0 := In.cell x0
                                  have g1 := In.cell x1
                                  have g2 := In.cell x2
                                  have g3 := In.cell z0
                                  have g4 := In.cell z2
                                  clear x0 x1 x2 z0 z2 hrr
                                  refine Go.Mb.wp_region_in (by kernel_rfl) (by kernel_rfl) ?_
                                  repeat (go_big_quiet_step ((go_at_call 11; exact Go.Mb.Calls.in_of (HR1.out _))))
                                  refine wpQuiet_nil ?_
                                  rintro wz ⟨s, hs⟩
                                  have hin : Below Wx.heap.size Wx wz := hs ▸ s.ok
                                  clear hs s g0 g1 g2 g3 g4
                                  go_wp2_with fail
                                  go_meet
                                  exact ⟨congrArg Value.bool HV.out.symm, HXX.out.trans (hin.mono HXX.out.size)⟩
                                | true =>
                                  by_cases hm0 : m = 0
                                  · have t5 : ((m : Int) == 0) = true := by simpa using hm0
                                    have HV := hval true (by rw [HOK.out, hrl, hrr]; simp [e1, hm0, atB, e3, e4]; omega)
                                    clear hval e1 hrl hm0
                                    have HR1 : Hid (∀ s : In Wx, Calls Try.prog 11 #[.slice xao xn xcap] s.w fun e w' => e = .returned (.bool true) ∧ Below s.w.heap.size s.w w') := fun s => (lawRight_any B xao xn xcap xl _ (HWX.out.below (s.ok.mono hBx)) (Nat.le_trans hBx s.ok.size)).mono (fun e w' h => by rw [hrr] at h; exact h)
                                    have g0 := In.cell x0
                                    have g1 := In.cell x1
                                    have g2 := In.cell x2
                                    have g3 := In.cell z0
                                    have g4 := In.cell z2
                                    clear x0 x1 x2 z0 z2 hrr
                                    refine Go.Mb.wp_region_in (by kernel_rfl) (by kernel_rfl) ?_
                                    repeat (go_big_quiet_step ((go_at_call 11; exact Go.Mb.Calls.in_of (HR1.out _))))
                                    refine wpQuiet_nil ?_
                                    rintro wz ⟨s, hs⟩
                                    have hin : Below Wx.heap.size Wx wz := hs ▸ s.ok
                                    clear hs s g0 g1 g2 g3 g4
                                    go_wp2_with fail
                                    go_meet
                                    exact ⟨congrArg Value.bool HV.out.symm, HXX.out.trans (hin.mono HXX.out.size)⟩
                                  · have t5 : ((m : Int) == 0) = false := by simpa using hm0
                                    obtain ⟨p, hp, hpc⟩ := HPX.out (by omega)
                                    have i1 : (0 : Int) ≤ (m : Int) - 1 := by omega
                                    have i2 : (m : Int) - 1 < k := by omega
                                    have i3 : ((m : Int) - 1).toNat = m - 1 := by omega
                                    have i4 : IntKind.i64.wrap ((m : Int) - 1) = (m : Int) - 1 := by rw [IntKind.wrap_i64]; omega
                                    by_cases e6 : p.tm ≤ xt
                                    · have t6 : decide (p.tm ≤ xt) = true := by simpa using e6
                                      have HV := hval true (by rw [HOK.out, hrl, hrr, hp]; simp [e1, atB, e3, e4, e6]; omega)
                                      clear hval e1 hrl hm0 hp
                                      have HR1 : Hid (∀ s : In Wx, Calls Try.prog 11 #[.slice xao xn xcap] s.w fun e w' => e = .returned (.bool true) ∧ Below s.w.heap.size s.w w') := fun s => (lawRight_any B xao xn xcap xl _ (HWX.out.below (s.ok.mono hBx)) (Nat.le_trans hBx s.ok.size)).mono (fun e w' h => by rw [hrr] at h; exact h)
                                      have g0 := In.cell x0
                                      have g1 := In.cell x1
                                      have g2 := In.cell x2
                                      have g3 := In.cell z0
                                      have g4 := In.cell z2
                                      have g5 := In.cell hpc
                                      clear x0 x1 x2 z0 z2 hrr hpc
                                      refine Go.Mb.wp_region_in (by kernel_rfl) (by kernel_rfl) ?_
                                      repeat (go_big_quiet_step ((go_at_call 11; exact Go.Mb.Calls.in_of (HR1.out _))))
                                      refine wpQuiet_nil ?_
                                      rintro wz ⟨s, hs⟩
                                      have hin : Below Wx.heap.size Wx wz := hs ▸ s.ok
                                      clear hs s g0 g1 g2 g3 g4 g5
                                      go_wp2_with fail
                                      go_meet
                                      exact ⟨congrArg Value.bool HV.out.symm, HXX.out.trans (hin.mono HXX.out.size)⟩
                                    · have t6 : decide (p.tm ≤ xt) = false := by simpa using e6
                                      have HV := hval false (by rw [HOK.out, hrl, hrr, hp]; simp [hm0, e6])
                                      clear hval e1 hrl hm0 hp
                                      have HR1 : Hid (∀ s : In Wx, Calls Try.prog 11 #[.slice xao xn xcap] s.w fun e w' => e = .returned (.bool true) ∧ Below s.w.heap.size s.w w') := fun s => (lawRight_any B xao xn xcap xl _ (HWX.out.below (s.ok.mono hBx)) (Nat.le_trans hBx s.ok.size)).mono (fun e w' h => by rw [hrr] at h; exact h)
                                      have g0 := In.cell x0
                                      have g1 := In.cell x1
                                      have g2 := In.cell x2
                                      have g3 := In.cell z0
                                      have g4 := In.cell z2
                                      have g5 := In.cell hpc
                                      clear x0 x1 x2 z0 z2 hrr hpc
                                      refine Go.Mb.wp_region_in (by kernel_rfl) (by kernel_rfl) ?_
                                      repeat (go_big_quiet_step ((go_at_call 11; exact Go.Mb.Calls.in_of (HR1.out _))))
                                      refine wpQuiet_nil ?_
                                      rintro wz ⟨s, hs⟩
                                      have hin : Below Wx.heap.size Wx wz := hs ▸ s.ok
                                      clear hs s g0 g1 g2 g3 g4 g5
                                      go_wp2_with fail
                                      go_meet
                                      exact ⟨congrArg Value.bool HV.out.symm, HXX.out.trans (hin.mono HXX.out.size)⟩
                              · have t4 : decide (xt ≤ 1099511627776) = false := by simpa using e4
                                have HV := hval false (by rw [HOK.out]; simp [atB, e4])
                                clear hval e1 hrl
                                go_quiet (fail)
                                go_wp2_with fail
                                go_meet
                                exact ⟨congrArg Value.bool HV.out.symm, HBX.out _⟩
                            · have t3 : decide (0 ≤ xt) = false := by simpa using e3
                              have HV := hval false (by rw [HOK.out]; simp [atB, e3])
                              clear hval e1 hrl
                              go_quiet (fail)
                              go_wp2_with fail
                              go_meet
                              exact ⟨congrArg Value.bool HV.out.symm, HBX.out _⟩
                          · have t2 : decide (xs ≤ 1099511627776) = false := by simpa using e2
                            have HV := hval false (by rw [HOK.out]; simp [e2])
                            clear hval e1 hrl
                            go_quiet (fail)
                            go_wp2_with fail
                            go_meet
                            exact ⟨congrArg Value.bool HV.out.symm, HBX.out _⟩
                        · have t1 : (xs == sq + 1 + (m : Int)) = false := by simp; omega
                          have HV := hval false (by rw [HOK.out]; simp [e1])
                          clear hval e1 hrl
                          go_quiet (fail)
                          go_wp2_with fail
                          go_meet
                          exact ⟨congrArg Value.bool HV.out.symm, HBX.out _⟩
                    case rest =>
                      obtain ⟨rfl, HB7⟩ := hcut
                      go_wp2_with fail
                      go_roundw
                      case rel => exact ⟨m + 1, by go_num, by omega, congrArg Value.bool HGS.out.symm, HB7.out⟩
                      case measure => simp [intOf]; omega
                  · obtain rfl : m = k := by omega
                    have hgood : (ga && goodTo sq cs m) = stateB sq bl cs := by
                      rw [HGA.out, HGB.out]
                      have hl : decide (bl.length ≤ 200) = true := by rw [HBN.out]; simp; omega
                      unfold baseB stateB newB comsB goodTo notGone
                      rw [hl, HLN.out]
                      simp [Bool.and_assoc]
                    have KR3 := HBK1.out.chg (Chg.of_below hbr3.out 0 []) (.inr (by simp))
                    have z0 : wr.cell? ⟨g, 0, none⟩ = some (.int .i64 sq) := KR3.cell 0
                    have z1 : wr.cell? ⟨g, 1, none⟩ = some (.slice bao i bcap) := KR3.cell 1
                    have z2 : wr.cell? ⟨g, 2, none⟩ = some (.slice cao m ccap) := KR3.cell 2
                    have hBr3 : B ≤ wr.heap.size := Nat.le_trans hBw1 hbr3.out.size
                    have hst := state_store B sq bao i bcap bl cao m ccap cs wr (HRD1.out.below (hbr3.out.mono hBw1)) (HRC1.out.below (hbr3.out.mono hBw1)) hBr3 (by omega)
                    have hbig : stateB sq bl cs = true → (encC sq bl cs).length ≤ 1000000000 := fun h => enc_small h (by rw [HBN.out]; omega) (by rw [HLN.out]; omega)
                    have HST := Lib.hid hst
                    have HBIG := Lib.hid hbig
                    have HGOOD := Lib.hid hgood
                    have HKR3 := Lib.hid KR3
                    obtain ⟨gg, hgg⟩ : ∃ gg, gg = (ga && goodTo sq cs m) := ⟨_, rfl⟩
                    rw [← hgg]
                    have HGG3 : Hid (gg = stateB sq bl cs) := hgg.trans hgood
                    clear hgood hgg KR3 hst hbig r2
                    go_wp2_with fail
                    refine (HST.out).mono ?_
                    rintro e w4 hs4
                    obtain ⟨er, sp, he4, hb4⟩ : ∃ (er : Int) (sp : Value), (e = .returned (.tuple #[sp, .int .i64 er]) ∧ er = if gg then 0 else 1) ∧ Below wr.heap.size wr w4 := by
                      unfold StoreSt at hs4
                      rw [← HGG3.out] at hs4
                      cases gg with
                      | true => obtain ⟨S, hist, its, h1, _, _, _, h2⟩ := hs4; exact ⟨0, _, ⟨h1, rfl⟩, h2⟩
                      | false => exact ⟨1, _, ⟨hs4.1, rfl⟩, hs4.2⟩
                    obtain ⟨rfl, her⟩ := he4
                    have KR4 := HKR3.out.chg (Chg.of_below hb4 0 []) (.inr (by simp))
                    have y0 : w4.cell? ⟨g, 0, none⟩ = some (.int .i64 sq) := KR4.cell 0
                    have y1 : w4.cell? ⟨g, 1, none⟩ = some (.slice bao i bcap) := KR4.cell 1
                    have y2 : w4.cell? ⟨g, 2, none⟩ = some (.slice cao m ccap) := KR4.cell 2
                    have hb5 := hbr3.out.trans (hb4.mono hbr3.out.size)
                    have hBr4 : B ≤ w4.heap.size := Nat.le_trans hBw1 hb5.size
                    have henc := encode_any B sq bao i bcap bl cao m ccap cs w4 (HRD1.out.below (hb5.mono hBw1)) (HRC1.out.below (hb5.mono hBw1)) hBr4 (by omega) HBIG.out
                    have HENC := Lib.hid henc
                    have HB5 := Lib.hid hb5
                    have HER := Lib.hid her
                    clear hs4 KR4 hb4 hb5 henc her z0 z1 z2
                    go_wp2_with fail
                    refine (HENC.out).mono ?_
                    rintro e w5 ⟨hs5, hb6⟩
                    have hend : Below w.heap.size w w5 := HB1.out.trans ((HB5.out.trans (hb6.mono HB5.out.size)).mono HB1.out.size)
                    have HEND := Lib.hid hend
                    rw [← HGG3.out] at hs5
                    have her := HER.out
                    clear hb6 hend
                    cases gg with
                    | true =>
                      obtain rfl := hs5
                      obtain rfl : er = 0 := her
                      go_wp2_with fail
                      go_ret
                      exact ⟨rfl, HEND.out⟩
                    | false =>
                      obtain rfl := hs5
                      obtain rfl : er = 1 := her
                      go_wp2_with fail
                      go_ret
                      exact ⟨rfl, HEND.out⟩
    · have : (20 : Int) < cn := by omega
      clear hc20
      go_wp2_with fail
      go_ret
      exact ⟨rfl, HB1.out⟩
  · have : (30 : Int) < bn := by omega
    clear hb30
    go_wp2_with fail
    go_ret
    exact ⟨rfl, HB1.out⟩
end Go.Proofs.Ytkgggioldpnfaaa
