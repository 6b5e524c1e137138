/-
  The disk's Crash.
-/
import Derived.Test.YtfiigdgkgelbkaaDk8
import Derived.Test.YtfiigdgkgelbkaaRd
namespace Go.Mb
open Go.RowKit
theorem keptN_bd {f : Fl} (hs : 0 ≤ f.safe ∧ f.safe ≤ f.data.size) (keep : List Int) (i : Nat) : f.safe ≤ keptN f keep i ∧ keptN f keep i ≤ f.data.size := by
  unfold keptN
  cases keep[i]? with
  | none => simp only; omega
  | some n => simp only; omega
theorem keptF_size {f : Fl} (hs : 0 ≤ f.safe ∧ f.safe ≤ f.data.size) (keep : List Int) (i : Nat) : ((keptF f keep i).data.size : Int) = keptN f keep i := by
  have := keptN_bd hs keep i
  show ((f.data.extract 0 (keptN f keep i).toNat).size : Int) = _
  rw [ByteArray.size_extract]
  omega
theorem sumF_le : ∀ {a b : List Fl}, a.length = b.length → (∀ (i : Nat) (x y : Fl), a[i]? = some x → b[i]? = some y → x.data.size ≤ y.data.size) → sumF a ≤ sumF b
  | [], [], _, _ => Nat.le_refl _
  | x :: a, y :: b, h, hc => by
    have h1 := sumF_le (a := a) (b := b) (by simpa using h) (fun i p q hp hq => hc (i + 1) p q (by simpa using hp) (by simpa using hq))
    have h2 := hc 0 x y rfl rfl
    simp only [sumF, List.map_cons, List.sum_cons] at h1 ⊢
    omega
theorem sumF_append (a b : List Fl) : sumF (a ++ b) = sumF a + sumF b := by simp [sumF]
theorem sumF_take (fs : List Fl) (k : Nat) : sumF (fs.take k) ≤ sumF fs := by
  have h := sumF_append (fs.take k) (fs.drop k)
  rw [List.take_append_drop] at h
  omega
theorem DkOk.crash {d : Dk} {N : Nat} (h : DkOk d N) (keep : List Int) : DkOk (d.crash keep) N := by
  refine ⟨h.room, ?_, ?_, ?_, ?_, by simp [Dk.crash], ?_⟩
  · show SrtF (crashF d.fs keep)
    refine List.pairwise_iff_getElem.2 fun i j hi hj hij => ?_
    have e1 := crashF_get d.fs keep i
    have e2 := crashF_get d.fs keep j
    rw [List.getElem?_eq_getElem hi] at e1
    rw [List.getElem?_eq_getElem hj] at e2
    rw [crashF_length] at hi hj
    rw [List.getElem?_eq_getElem hi] at e1
    rw [List.getElem?_eq_getElem hj] at e2
    simp only [Option.map_some, Option.some.injEq] at e1 e2
    rw [e1, e2]
    exact List.pairwise_iff_getElem.1 h.srt i j hi hj hij
  · intro g hg
    obtain ⟨i, hi⟩ := List.mem_iff_getElem?.1 hg
    have hi' : (crashF d.fs keep)[i]? = some g := hi
    rw [crashF_get] at hi'
    obtain ⟨f, hf, rfl⟩ := Option.map_eq_some_iff.1 hi'
    have hs := h.safe f (List.mem_of_getElem? hf)
    have h1 := keptN_bd hs keep i
    have h2 := keptF_size hs keep i
    show 0 ≤ keptN f keep i ∧ keptN f keep i ≤ _
    rw [h2]
    omega
  · have h1 : sumF (crashF d.fs keep) ≤ sumF d.fs := by
      refine sumF_le (crashF_length _ _) fun i x y hx hy => ?_
      rw [crashF_get, hy] at hx
      simp only [Option.map_some, Option.some.injEq] at hx
      subst hx
      have hs := h.safe y (List.mem_of_getElem? hy)
      have h2 := keptF_size hs keep i
      have h3 := keptN_bd hs keep i
      omega
    have := h.fits
    show (sumF (crashF d.fs keep) : Int) ≤ d.room
    omega
  · show (crashF d.fs keep).length ≤ N
    rw [crashF_length]
    exact h.few
  · intro g hg
    obtain ⟨i, hi⟩ := List.mem_iff_getElem?.1 hg
    have hi' : (crashF d.fs keep)[i]? = some g := hi
    rw [crashF_get] at hi'
    obtain ⟨f, hf, rfl⟩ := Option.map_eq_some_iff.1 hi'
    exact h.names f (List.mem_of_getElem? hf)
theorem DkOk.take {d : Dk} {N : Nat} (h : DkOk d N) (k : Nat) : DkOk { d with fs := d.fs.take k } N := by
  refine ⟨h.room, h.srt.sublist (List.take_sublist _ _), fun f hf => h.safe f (List.mem_of_mem_take hf), ?_, ?_, h.fall, fun f hf => h.names f (List.mem_of_mem_take hf)⟩
  · have h1 := sumF_take d.fs k
    have := h.fits
    show (sumF (d.fs.take k) : Int) ≤ d.room
    omega
  · have := h.few
    show (d.fs.take k).length ≤ N
    rw [List.length_take]
    omega
theorem DkAt.belowB {P : Program} {tS : TypeId} {w w' : World} {S m : Nat} {d : Dk} {N B : Nat} (h : DkAt P tS w S m d N) (hb : Below B w w') (h1 : S < B) (h2 : m < B) : DkAt P tS w' S m d N := by
  refine ⟨(hb.block S h1).trans h.blk, ?_, h.ok⟩
  obtain ⟨es, clock, hm, r⟩ := h.own
  exact ⟨es, clock, (hb.block m h2).trans hm, r⟩
theorem own_head' {w : World} {base : Nat} {e : TypeId} {k n cap : Nat} {ao : Option Addr} {xs : List Value} (h : w.ownsRow base e k (.slice ao n cap) n xs) (hn : 0 < n) :
    ∃ g, ao = some ⟨g, 0, none⟩ ∧ g < w.heap.size ∧ base ≤ g ∧ ∃ cur, Blk w g e cur ∧ cur.size = cap * k ∧ n ≤ cap := by
  rcases h.2 with ⟨h', h0⟩ | ⟨g, cap', cur, h', hb, hg, hnc, _, hcs, _⟩
  · omega
  · cases h'
    exact ⟨g, rfl, (Array.getElem?_eq_some_iff.1 hg).1, hb, cur, hg, hcs, hnc⟩
/-- a slice of numbers -/
abbrev RdN (B : Nat) (w : World) (ao : Option Addr) (n cap : Nat) (l : List Int) : Prop := Rd 1 B w ao n cap (l.map fun x => [.int .i64 x])
theorem RdN.len {B : Nat} {w : World} {ao : Option Addr} {n cap : Nat} {l : List Int} (h : RdN B w ao n cap l) : l.length = n := by simpa using Rd.len h
theorem RdN.at_ {B : Nat} {w : World} {ao : Option Addr} {n cap : Nat} {l : List Int} (h : RdN B w ao n cap l) {i : Nat} {x : Int} (hx : l[i]? = some x) {b off : Nat} (e : ao = some ⟨b, off, none⟩) : w.cell? ⟨b, off + i, none⟩ = some (.int .i64 x) := by
  have hi : i < l.length := (List.getElem?_eq_some_iff.1 hx).1
  obtain ⟨b', off', e', _, hc⟩ := Rd.cells h (by have := RdN.len h; omega)
  rw [e] at e'
  cases e'
  have := hc i [.int .i64 x] (by simp [hx]) 0 _ rfl
  simpa using this
theorem DkAt.setRoom {P : Program} {tS : TypeId} {w : World} {S m : Nat} {d : Dk} {N : Nat} (h : DkAt P tS w S m d N) (r : Int) (hr : 0 ≤ r ∧ r ≤ 1048576) (hf : d.fs = []) : DkAt P tS (w.setCell ⟨S, 0, none⟩ (.int .i64 r)) S m { d with room := r } N :=
  ⟨h.blk.set_ 0 (.int .i64 r), h.own.setCell (fun e => h.ne e.symm) _, ⟨hr, h.ok.srt, h.ok.safe, by show (sumF d.fs : Int) ≤ r; rw [hf]; simp [sumF]; omega, h.ok.few, h.ok.fall, h.ok.names⟩⟩
end Go.Mb
namespace Go.Proofs.Ytfiigdgkgelbkaa
open Go.RowKit Go.Mb Go.Maps Go.Sort Go.Shelf

theorem mapsKeys_any (m : Nat) (w : World) : Calls Try.prog 30 #[.map (some m)] w fun e w' => e = .returned (.func (.func 39) #[] #[.pointer (some ⟨w.heap.size, 0, none⟩)]) ∧ w' = w.alloc (.cells #[.map (some m)] 61) :=
  callsIn_wide.1 (Try.maps_Keys_30 (some m) w)

set_option maxHeartbeats 2000000 in
set_option maxRecDepth 100000 in
theorem crash_any (S m N : Nat) (d : Dk) (ao : Option Addr) (kn kcap : Nat) (keep : List Int) (w : World) (h : DkAt Try.prog 63 w S m d N) (hN : N ≤ 1000000) (hk : RdN w.heap.size w ao kn kcap keep) :
    Calls Try.prog 15 #[.pointer (some ⟨S, 0, none⟩), .slice ao kn kcap] w (DkNew Try.prog 63 (d.crash keep) N w) := by
  obtain ⟨c0, c1, c2, c3, fz⟩ := h.cells
  have hkl := RdN.len hk
  have hkc := Rd.le hk
  have hkm := Rd.max hk
  unfold maxLen at hkm
  have hSlt := h.blk.lt
  have hmlt := h.own.lt
  have hroom := h.ok.room
  have hfew := h.ok.few
  have HH := Lib.hid h
  have HKP := Lib.hid hk
  have HKL := Lib.hid hkl
  have HNEW := Lib.hid (new_any 1048576 N w)
  clear h hk fz hkl
  go_enter Try.func15, Try.ntmps15
  go_wp2_with fail
  refine (HNEW.out).mono ?_
  rintro e w1 ⟨S', m', rfl, hnew, hS', hm', hb1⟩
  have ho := HH.out.belowB hb1 hSlt hmlt
  obtain ⟨n0, n1, n2, n3, nz⟩ := hnew.cells
  obtain ⟨o0, o1, o2, o3, oz⟩ := ho.cells
  have nf := nz 0
  have HNW := Lib.hid hnew
  have HOL := Lib.hid ho
  have HB1 := Lib.hid hb1
  clear hnew ho hb1 nz oz c0 c1 c2 c3
  go_wp2_with fail
  obtain ⟨W2, hW2⟩ : ∃ W, W = w1.setCell ⟨S', 0, none⟩ (.int .i64 d.room) := ⟨_, rfl⟩
  rw [← hW2]
  have hnew2 : DkAt Try.prog 63 W2 S' m' ⟨d.room, [], false, -1⟩ N := by
    rw [hW2]
    exact HNW.out.setRoom d.room hroom rfl
  have hb2 : Below w.heap.size w W2 := by rw [hW2]; exact HB1.out.setCell (p := ⟨S', 0, none⟩) hS' _
  have ho2 := HH.out.belowB hb2 hSlt hmlt
  have HNW2 := Lib.hid hnew2
  have HB2 := Lib.hid hb2
  have HO2 := Lib.hid ho2
  clear hW2 hnew2 hb2 ho2 n0 n1 n2 n3 nf o0 o1 o2 o3 HNW HOL HB1
  refine (mapsKeys_any m W2).mono ?_
  rintro e w3 ⟨rfl, hw3⟩
  subst w3
  have hkeys := callsIn_wide.1 (keys_any m d.fs HH.out.ok.srt (by omega) W2 HO2.out.own)
  have HKS := Lib.hid hkeys
  clear hkeys
  go_wp2_with fail
  refine (HKS.out).mono ?_
  rintro e w3 ⟨v, rfl, hrow, hb3⟩
  have hb23 : Below W2.heap.size W2 w3 := ((Below.refl _ _).alloc (Nat.le_refl _) _).trans (hb3.mono (by omega))
  have hb03 : Below w.heap.size w w3 := HB2.out.trans (hb23.mono HB2.out.size)
  have hnew3 := HNW2.out.below hb23
  have hkp3 : RdN w.heap.size w3 ao kn kcap keep := HKP.out.below hb03
  obtain ⟨kv, kcp, rfl, hrd, hnone⟩ := Rd.of_own (k := 1) (ls := d.fs.map fun f => [.string f.name]) (by
    have e : (d.fs.map fun f => [Value.string f.name]).flatten = d.fs.map fun f => .string f.name := by
      induction d.fs with
      | nil => rfl
      | cons a l ih => simp [ih]
    rw [e]; exact hrow) (by simp) (by simp)
  have hgb : ∀ b off, kv = some ⟨b, off, none⟩ → 0 < d.fs.length → b ≠ S' ∧ b ≠ m' := by
    intro b off e hpos
    subst e
    obtain ⟨g, e2, _, _, cur, hg, _⟩ := own_head' hrow hpos
    cases e2
    refine ⟨?_, ?_⟩
    · rintro rfl
      have := hnew3.blk
      unfold Blk at this hg
      rw [hg] at this
      cases this
    · rintro rfl
      obtain ⟨es, clock, hm, _⟩ := hnew3.own
      unfold Blk at hg
      rw [hg] at hm
      cases hm
  have hrl := hrd.le
  have hrm := hrd.max
  unfold maxLen at hrm
  have HNW3 := Lib.hid hnew3
  have HB03 := Lib.hid hb03
  have HKP3 := Lib.hid hkp3
  have HRD := Lib.hid hrd
  have HGB := Lib.hid hgb
  clear hrow hb3 hb23 hb03 hnew3 hkp3 hrd hgb hnone
  go_wp2_with fail
  go_loopw [6, 7, 8, 9, 28] (fun _ _ _ _ j wr => ∃ k : Nat, j = .int .i64 k ∧ k ≤ d.fs.length ∧ Hid (DkAt Try.prog 63 wr S' m' ⟨d.room, (crashF d.fs keep).take k, false, -1⟩ N) ∧ Hid (Tur [S', m'] w3 wr)) (fun _ _ _ _ j _ => d.fs.length - (intOf j).toNat)
  case atStart => exact ⟨0, rfl, Nat.zero_le _, HNW3.out, Tur.refl _ _⟩
  case round =>
    obtain ⟨k, rfl, hk, hnr, htr⟩ := hrel
    have hbr : Below w.heap.size w3 wr := htr.out.below (by simp; omega) HB03.out.size
    by_cases hlt : k < d.fs.length
    · obtain ⟨f, hf⟩ : ∃ f, d.fs[k]? = some f := ⟨d.fs[k], List.getElem?_eq_getElem hlt⟩
      obtain ⟨b, off, rfl, hb, hc⟩ := HRD.out.cells (by omega)
      have hname : w3.cell? ⟨b, off + k, none⟩ = some (.string f.name) := by
        have := hc k [.string f.name] (by simp [hf]) 0 _ rfl
        simpa using this
      obtain ⟨hne1, hne2⟩ := HGB.out b off rfl (by omega)
      have hname' : wr.cell? ⟨b, off + k, none⟩ = some (.string f.name) := by
        have hbb : wr.heap[b]? = w3.heap[b]? := htr.out.block b hb (by simp; exact ⟨hne1, hne2⟩)
        rw [World.cell?_of_block (a := ⟨b, off + k, none⟩) hbb]; exact hname
      have hor := HO2.out.ok
      have hold : DkAt Try.prog 63 wr S m d N := HH.out.belowB (HB03.out.trans hbr) hSlt hmlt
      obtain ⟨o0, o1, o2, o3, oz⟩ := hold.cells
      have hmem := List.mem_of_getElem? hf
      have hsafe := hor.safe f hmem
      have hsz : (f.data.size : Int) ≤ 1048576 := by
        have h3 := sumF_del hor.srt hmem
        have h4 := hor.fits
        have h5 := hor.room.2
        omega
      have hnm := hor.names f hmem
      have hnm' : f.name.size ≤ maxLen := by unfold maxLen; omega
      have hfv := FileV.some_ (lookF_of_mem hor.srt hmem)
      have hkn := keptN_bd hsafe keep k
      have hnext := crash_take (keep := keep) hor.srt hf
      have hokn := (hor.crash keep).take (k + 1)
      have hlen : ((crashF d.fs keep).take k).length ≤ 1000000 := by rw [List.length_take, crashF_length]; omega
      have hsub : IntKind.i64.wrap ((f.data.size : Int) - f.safe) = (f.data.size : Int) - f.safe := by rw [IntKind.wrap_i64]; omega
      obtain ⟨y0, y1, y2, y3, yz⟩ := hnr.out.cells
      have HFV := Lib.hid hfv
      have HOLD := Lib.hid hold
      have HNX := Lib.hid hnext
      have HOKN := Lib.hid hokn
      have HBR := Lib.hid hbr
      have HF := Lib.hid hf
      clear hc hname hfv hnext hokn hor hold oz yz hmem hbr hf
      obtain ⟨kq, hkq⟩ : ∃ kq, kq = keptN f keep k := ⟨_, rfl⟩
      have hkf : keptF f keep k = ⟨f.name, f.data.extract 0 kq.toNat, kq⟩ := by rw [hkq]; rfl
      rw [← hkq] at hkn
      have HKF := Lib.hid hkf
      have HKQ := Lib.hid hkq
      clear hkf hkq
      by_cases hkk : k < kn
      · obtain ⟨kb, koff, rfl, hkb, _⟩ := HKP3.out.cells (by omega)
        obtain ⟨z, hz⟩ : ∃ z, keep[k]? = some z := ⟨keep[k]'(by rw [HKL.out]; exact hkk), List.getElem?_eq_getElem _⟩
        have hkc3 := RdN.at_ HKP3.out hz rfl
        have hkcr : wr.cell? ⟨kb, koff + k, none⟩ = some (.int .i64 z) := (HBR.out.cell hkb).trans hkc3
        have hkqz : kq = f.safe + min (max z 0) ((f.data.size : Int) - f.safe) := by rw [HKQ.out]; unfold keptN; rw [hz]
        clear hz hkc3
        go_wp2_with (at_lookup; refine wpList_look_file _ rfl _ _ 61 rfl 66 Try.keyS Try.underlying61 Try.underlying9 (Try.fileZ _) m d.fs.length d.fs rfl HOLD.out.own f.name rfl hnm' _ _ _ HFV.out ?_)
        have hkcra : ∀ o, (wr.alloc o).cell? ⟨kb, koff + k, none⟩ = some (.int .i64 z) := fun o => (((Below.refl _ wr).alloc (Nat.le_refl _) o).cell (show kb < wr.heap.size by have := HBR.out.size; have := HB03.out.size; omega)).trans hkcr
        have i1 : (0 : Int) ≤ (k : Int) := by omega
        have i2 : (k : Int) < (kn : Int) := by omega
        clear hkcr
        have hkq2 := hkqz.symm
        clear hkqz
        go_quiet (fail)
        go_wp2_with fail
        refine Go.Mb.wp_region_tail 11 (by kernel_rfl) (by kernel_rfl) ?_
        intro W hW
        have hbW : Below wr.heap.size wr W := by rw [hW]; exact ((Below.refl _ _).alloc (Nat.le_refl _) _).trans ⟨rfl, rfl, rfl, Nat.le_refl _, fun _ _ => rfl⟩
        have hbox : Blk W wr.heap.size 66 #[.string f.data, .int .i64 f.safe] := by rw [hW]; exact (Blk.new wr _ _)
        have hnw := hnr.out.below hbW
        have k1 := hnw.cells.2.1
        have b0 : W.cell? ⟨wr.heap.size, 0, none⟩ = some (.string f.data) := hbox.cell 0
        have b1 : W.cell? ⟨wr.heap.size, 1, none⟩ = some (.int .i64 f.safe) := hbox.cell 1
        have HOW := Lib.hid hnw.own
        have HNWW := Lib.hid hnw
        have HBW := Lib.hid hbW
        have q0 : 0 ≤ kq := by omega
        have q1 : kq ≤ f.data.size := by omega
        clear hW hbW hbox hnw o0 o1 o2 o3 y0 y1 y2 y3
        simp only [List.take_succ_cons, List.take_zero, List.drop_succ_cons, List.drop_zero]
        repeat still_step
        refine wpStill_nil ?_
        go_wp2_with (at_mapUpdate; refine wpList_put_file _ rfl _ _ _ 61 rfl 66 Try.keyS Try.underlying61 Try.underlying9 m' ((crashF d.fs keep).take k) rfl HOW.out (by unfold maxLen; omega) ⟨f.name, f.data.extract 0 kq.toNat, kq⟩ rfl rfl hnm' ?_; intro w4 hown4 hturn4)
        go_roundw
        case rel =>
          refine ⟨k + 1, by go_num, by omega, ?_, (htr.out.trans (Tur.of_below HBW.out _)).trans (Tur.of_map hturn4 (by simp))⟩
          have hn2 := HNX.out
          rw [HKF.out] at hn2
          rw [hn2] at hown4
          exact HNWW.out.setFs hturn4 hown4 HOKN.out
        case measure => simp [intOf]; omega
      · have hkqz : kq = f.safe := by rw [HKQ.out]; unfold keptN; rw [List.getElem?_eq_none (by rw [HKL.out]; omega)]; simp
        have HS := Lib.hid hkqz
        have hkk' : ¬ (k : Int) < (kn : Int) := by omega
        have hkq2 : 0 ≤ f.safe ∧ f.safe ≤ f.data.size := by omega
        clear hkqz hkk
        go_wp2_with (at_lookup; refine wpList_look_file _ rfl _ _ 61 rfl 66 Try.keyS Try.underlying61 Try.underlying9 (Try.fileZ _) m d.fs.length d.fs rfl HOLD.out.own f.name rfl hnm' _ _ _ HFV.out ?_)
        refine Go.Mb.wp_region_tail 11 (by kernel_rfl) (by kernel_rfl) ?_
        intro W hW
        have hbW : Below wr.heap.size wr W := by rw [hW]; exact ((Below.refl _ _).alloc (Nat.le_refl _) _).trans ⟨rfl, rfl, rfl, Nat.le_refl _, fun _ _ => rfl⟩
        have hbox : Blk W wr.heap.size 66 #[.string f.data, .int .i64 f.safe] := by rw [hW]; exact Blk.new wr _ _
        have hnw := hnr.out.below hbW
        have k1 := hnw.cells.2.1
        have b0 : W.cell? ⟨wr.heap.size, 0, none⟩ = some (.string f.data) := hbox.cell 0
        have b1 : W.cell? ⟨wr.heap.size, 1, none⟩ = some (.int .i64 f.safe) := hbox.cell 1
        have HOW := Lib.hid hnw.own
        have HNWW := Lib.hid hnw
        have HBW := Lib.hid hbW
        have q0 : 0 ≤ f.safe := by omega
        have q1 : f.safe ≤ f.data.size := by omega
        clear hW hbW hbox hnw o0 o1 o2 o3 y0 y1 y2 y3
        simp only [List.take_succ_cons, List.take_zero, List.drop_succ_cons, List.drop_zero]
        repeat still_step
        refine wpStill_nil ?_
        go_wp2_with (at_mapUpdate; refine wpList_put_file _ rfl _ _ _ 61 rfl 66 Try.keyS Try.underlying61 Try.underlying9 m' ((crashF d.fs keep).take k) rfl HOW.out (by unfold maxLen; omega) ⟨f.name, f.data.extract 0 f.safe.toNat, f.safe⟩ rfl rfl hnm' ?_; intro w4 hown4 hturn4)
        go_roundw
        case rel =>
          refine ⟨k + 1, by go_num, by omega, ?_, (htr.out.trans (Tur.of_below HBW.out _)).trans (Tur.of_map hturn4 (by simp))⟩
          have hn2 := HNX.out
          rw [HKF.out] at hn2
          rw [HS.out] at hn2
          rw [hn2] at hown4
          exact HNWW.out.setFs hturn4 hown4 HOKN.out
        case measure => simp [intOf]; omega
    · obtain rfl : k = d.fs.length := by omega
      go_wp2_with fail
      go_ret
      have h1 := hnr.out
      rw [List.take_of_length_le (by rw [crashF_length]; omega)] at h1
      exact ⟨S', m', rfl, h1, hS', hm', HB03.out.trans hbr⟩
end Go.Proofs.Ytfiigdgkgelbkaa
