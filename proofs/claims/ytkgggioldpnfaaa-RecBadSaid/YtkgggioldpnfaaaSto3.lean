/-
  store.New
-/
import Derived.Test.YtkgggioldpnfaaaSto2
import Derived.Deep.RegionHeld3
namespace Go.Mb
open Go.RowKit Go.Proofs.Ytkgggioldpnfaaa
def newB (sq : Int) (l : List Wr) : Bool := decide (0 ≤ sq) && decide (sq ≤ 1099511627776) && risesB l && l.all fun x => !x.gone
def baseA (sq : Int) (l : List Wr) : AT := l.map fun x => (x.key, [⟨sq, x.val, false⟩])
def NewSt (sq : Int) (l : List Wr) (N : Nat) (w : World) (e : Ending) (w' : World) : Prop :=
  if newB sq l then ∃ S its, e = .returned (.tuple #[.pointer (some ⟨S, 0, none⟩), .int .i64 0]) ∧ StoreAt w.heap.size S w' sq [] its N ∧ its.map It.ab = baseA sq l ∧ Below w.heap.size w w'
  else e = .returned (.tuple #[.pointer none, .int .i64 1]) ∧ Below w.heap.size w w'
theorem NewSt.no {sq : Int} {l : List Wr} {N : Nat} {w : World} {e : Ending} {w' : World} (h : newB sq l = false) (h1 : e = .returned (.tuple #[.pointer none, .int .i64 1])) (h2 : Below w.heap.size w w') : NewSt sq l N w e w' := by
  unfold NewSt; rw [h]; exact ⟨h1, h2⟩
theorem NewSt.yes {sq : Int} {l : List Wr} {N : Nat} {w : World} {e : Ending} {w' : World} (h : newB sq l = true) {S : Nat} {its : List It} (h1 : e = .returned (.tuple #[.pointer (some ⟨S, 0, none⟩), .int .i64 0])) (h3 : StoreAt w.heap.size S w' sq [] its N)
    (h4 : its.map It.ab = baseA sq l) (h2 : Below w.heap.size w w') : NewSt sq l N w e w' := by
  unfold NewSt; rw [h]; exact ⟨S, its, h1, h3, h4, h2⟩
/-- a key that stands behind all of the tree is put at its end -/
theorem upA_last {l : AT} {k : ByteArray} {vs : List Ver} (h : ∀ y ∈ l, ltK y.1 k = true) : upA l k vs = l ++ [(k, vs)] := by
  unfold upA
  rw [List.filter_eq_self.2 h, List.filter_eq_nil_iff.2 (fun a ha => by rw [ltK_asymm (h a ha)]; exact Bool.false_ne_true)]
theorem store_empty (w : World) (base : Nat) (hb : base ≤ w.heap.size) (sq : Int) (h0 : 0 ≤ sq) (h1 : sq ≤ 1099511627776) (N : Nat) :
    StoreAt base w.heap.size (w.alloc (.cells #[.slice none 0 0, .int .i64 0, .int .i64 sq, .slice none 0 0] 87)) sq [] [] N := by
  refine ⟨[], none, 0, none, 0, ⟨Blk.new _ _ _, ⟨rfl, rfl, ⟨rfl, .inl ⟨rfl, rfl⟩⟩, (fun f hf => nomatch hf), (fun f hf => nomatch hf), List.Pairwise.nil⟩, rfl, ⟨rfl, .inl ⟨rfl, rfl⟩⟩, (fun c hc => nomatch hc), List.Pairwise.nil, ⟨Nat.zero_le _, Nat.zero_le _, fun x hx => nomatch hx⟩, hb, ⟨h0, h1⟩, fun x hx => nomatch hx⟩⟩
end Go.Mb
namespace Go.Proofs.Ytkgggioldpnfaaa
open Go.RowKit Go.Mb

/-- a fresh chain of one version, put into the tree -/
theorem put_fresh (base S : Nat) (sq : Int) (its : List It) (N : Nat) (kx vx : ByteArray) (w : World) (h : StoreAt base S w sq [] its N) (hb : base ≤ w.heap.size) (hN : its.length + 1 ≤ N) (hN1 : N ≤ 999999) :
    Calls Try.prog 42 #[.pointer (some ⟨S, 0, none⟩), .string kx, .slice (some ⟨w.heap.size, 0, none⟩) 1 1] (w.alloc (.cells #[.int .i64 sq, .string vx, .bool false] 92))
      (fun e w' => ∃ b its', e = .returned (.bool b) ∧ Chg base [87, 125, 124] w w' ∧ StoreAt base S w' sq [] its' N ∧ its'.map It.ab = upA (its.map It.ab) kx [⟨sq, vx, false⟩]) := by
  have hal := Below.alloc (Below.refl w.heap.size w) (Nat.le_refl _) (.cells #[.int .i64 sq, .string vx, .bool false] 92)
  refine (put_st base S sq [] its N N ⟨kx, some ⟨w.heap.size, 0, none⟩, 1, 1, [⟨sq, vx, false⟩]⟩ _ (h.below hal) ⟨?_, rfl, Nat.one_pos, show 1 ≤ 1000000 by omega⟩ ?_ hN (Nat.le_refl _) hN1 (show 1 ≤ N by omega)).mono ?_
  · exact own_of_blk (n := 1) (Blk.new w 92 _) hb rfl (by decide)
  · simp [lastV]
  · rintro e w' ⟨b, rfl, hch, hst⟩
    exact ⟨b, _, rfl, (Chg.of_below hal _ _).trans hch, hst, by rw [ups_ab]⟩

set_option maxHeartbeats 2000000 in
set_option maxRecDepth 100000 in
theorem new_any (B : Nat) (sq : Int) (ao : Option Addr) (n cap : Nat) (l : List Wr) (w : World) (h : RdW B w ao n cap l) (hB : B ≤ w.heap.size) (N : Nat) (hN : n + 1 ≤ N) (hN1 : N ≤ 999999) :
    Calls Try.prog 24 #[.int .i64 sq, .slice ao n cap] w (NewSt sq l N w) := by
  have hlen := h.len
  simp only [List.length_map] at hlen
  have hmax := h.max
  have hle := h.le
  unfold maxLen at hmax
  by_cases h1 : 0 ≤ sq
  · by_cases h2 : sq ≤ 1099511627776
    · cases h3 : risesB l with
      | false =>
        have HR : Hid (newB sq l = false) := by show newB sq l = false; unfold newB; simp [h3]
        clear hlen
        go_enter Try.func24, Try.ntmps24
        go_wp2_with (go_at_call 41; refine (rises_any B ao n cap l _ h hB).mono ?_; rintro e w1 ⟨rfl, hb⟩; rw [h3])
        go_ret2
        exact NewSt.no HR.out rfl hb
      | true =>
        have HR : Hid (newB sq l = l.all fun x => !x.gone) := by show newB sq l = _; unfold newB; simp [h1, h2, h3]
        have H3 := Lib.hid h3
        have HL := Lib.hid hlen
        clear hlen
        go_enter Try.func24, Try.ntmps24
        go_wp2_with (go_at_call 41; refine (rises_any B ao n cap l _ h hB).mono ?_; rintro e w1 ⟨rfl, hb⟩; rw [h3])
        obtain ⟨S, hS⟩ : ∃ S, S = w1.heap.size := ⟨_, rfl⟩
        have hst0 := store_empty w1 w.heap.size hb.size sq h1 h2 N
        rw [← hS] at hst0 ⊢
        have HS0 := Lib.hid hst0
        have HB1 : Hid (Below w.heap.size w (w1.alloc (.cells #[.slice none 0 0, .int .i64 0, .int .i64 sq, .slice none 0 0] 87))) := hb.trans ((Below.refl _ _).alloc hb.size _)
        clear hst0 hS h3 hb
        go_loopw [8, 25] (fun _ j wr => ∃ k : Nat, j = .int .i64 k ∧ k ≤ n ∧ ∃ its, Hid (StoreAt w.heap.size S wr sq [] its N) ∧ Hid (its.map It.ab = baseA sq (l.take k)) ∧ Hid (Below w.heap.size w wr) ∧ Hid (∀ x ∈ l.take k, x.gone = false)) (fun _ j _ => n - (intOf j).toNat)
        case atStart => exact ⟨0, rfl, Nat.zero_le _, [], HS0.out, Lib.hid rfl, HB1.out, Lib.hid (fun x hx => nomatch hx)⟩
        case round =>
          obtain ⟨k, rfl, hk, its, hst, hab, hbl, hng⟩ := hrel
          by_cases hlt : k < n
          · obtain ⟨b, off, rfl, hb, hc⟩ := h.cells (by omega)
            obtain ⟨x, hx⟩ : ∃ x, l[k]? = some x := ⟨l[k]'(by rw [HL.out]; omega), List.getElem?_eq_getElem _⟩
            obtain ⟨h0, h1', h2'⟩ := RdW.at_ (h.below (hbl.out.mono hB)) hx rfl
            obtain ⟨kx, vx, gx⟩ := x
            simp only at h0 h1' h2'
            clear hc
            have HXK := Lib.hid hx
            clear hx
            have hsz := hbl.out.size
            cases gx with
            | true =>
              have hno : newB sq l = false := by
                rw [HR.out, Bool.eq_false_iff]
                intro hc
                have := List.all_eq_true.1 hc _ (List.mem_of_getElem? HXK.out)
                cases this
              have HNO := Lib.hid hno
              clear hno
              go_wp2_with fail
              go_ret2
              exact NewSt.no HNO.out rfl (hbl.out.trans ((Below.refl _ _).alloc hsz _))
            | false =>
              go_wp2_with fail
              obtain ⟨W0, hW0⟩ : ∃ W, W = wr.alloc (Obj.cells #[Value.string kx, Value.string vx, Value.bool false] 31) := ⟨_, rfl⟩
              obtain ⟨g, hg⟩ : ∃ g, g = wr.heap.size := ⟨_, rfl⟩
              have hblk : Blk W0 g 31 #[Value.string kx, Value.string vx, Value.bool false] := by rw [hW0, hg]; exact Blk.new _ _ _
              have c0 : W0.cell? ⟨g, 0, none⟩ = some (.string kx) := hblk.cell 0
              have c1 : W0.cell? ⟨g, 1, none⟩ = some (.string vx) := hblk.cell 1
              have hbl0 : Below w.heap.size w W0 := by rw [hW0]; exact hbl.out.trans ((Below.refl _ _).alloc hsz _)
              have hst1 : StoreAt w.heap.size S W0 sq [] its N := by rw [hW0]; exact hst.out.below ((Below.refl _ _).alloc (Nat.le_refl _) _)
              have hlen1 : its.length = k := by
                have := congrArg List.length hab.out
                simp only [List.length_map, baseA, List.length_take] at this
                rw [this, HL.out]; omega
              rw [← hW0, ← hg]
              have HST1 : Hid (StoreAt w.heap.size S W0.drew sq [] its N) := hst1.chg (Chg.drew 0 [] _) (by decide) (by decide) (by decide) (by decide) (by decide) (by decide)
              have HBL0 : Hid (Below w.heap.size w W0.drew) := hbl0.drew
              have HLN := Lib.hid hlen1
              have HBK : Hid (Blk W0.drew g 31 #[Value.string kx, Value.string vx, Value.bool false]) := hblk
              clear hblk hbl0 hst1 hlen1 hW0 hg h0 h1' h2' hst hbl
              go_region_held3 (fun w' => w'.cell? ⟨g, 0, none⟩ = some (.string kx) ∧ w'.cell? ⟨g, 1, none⟩ = some (.string vx)) (go_keep)
                ((first
                  | (go_at_call_of 42 (Value.string kx); refine (put_fresh w.heap.size S sq its N kx vx _ (by exact HST1.out) (by exact HBL0.out.size) (by rw [HLN.out]; omega) hN1).mono ?_; rintro e wa ⟨ba, its', rfl, hch, hst, hab'⟩; have HCH := Lib.hid hch; have HST := Lib.hid hst; have HAB := Lib.hid hab'; have KA := Lib.hid (HBK.out.chg hch (.inr (by decide))); have ca0 : wa.cell? ⟨g, 0, none⟩ = some (.string kx) := KA.out.cell 0; have ca1 : wa.cell? ⟨g, 1, none⟩ = some (.string vx) := KA.out.cell 1; clear hch hst hab')))
              go_wp2_with fail
              go_roundw
              case rel =>
                have hsz2 := HBL0.out.size
                refine ⟨k + 1, by go_num, by omega, its', HST.out, ?_, HBL0.out.trans (HCH.out.below hsz2), ?_⟩
                · show its'.map It.ab = _
                  rw [HAB.out, hab.out, List.take_add_one, HXK.out]
                  unfold baseA
                  rw [upA_last]
                  · simp
                  · intro y hy
                    obtain ⟨z, hz, rfl⟩ := List.mem_map.1 hy
                    obtain ⟨i, hi⟩ := List.getElem?_of_mem hz
                    rw [List.getElem?_take] at hi
                    split at hi
                    · rename_i hik
                      have hp := rises_pair H3.out
                      rw [List.pairwise_iff_getElem] at hp
                      obtain ⟨q1, e1⟩ := List.getElem?_eq_some_iff.1 hi
                      obtain ⟨q2, e2⟩ := List.getElem?_eq_some_iff.1 HXK.out
                      have := hp i k q1 q2 hik
                      rw [e1, e2] at this
                      exact this
                    · cases hi
                · show ∀ x ∈ l.take (k + 1), x.gone = false
                  intro x hx
                  rw [List.take_add_one, HXK.out] at hx
                  rcases List.mem_append.1 hx with hx | hx
                  · exact hng.out x hx
                  · simp at hx; rw [hx]
              case measure => simp [intOf]; omega
          · obtain rfl : k = n := by omega
            go_wp2_with fail
            go_ret2
            rw [← HL.out, List.take_length] at hab hng
            exact NewSt.yes (by rw [HR.out, List.all_eq_true]; intro x hx; rw [hng.out x hx]; rfl) rfl hst.out hab.out hbl.out
    · have HR : Hid (newB sq l = false) := by show newB sq l = false; unfold newB; simp [h2]
      have h4' : 1099511627776 < sq := by omega
      clear h2 hlen
      go_enter Try.func24, Try.ntmps24
      go_wp2_with fail
      go_ret2
      exact NewSt.no HR.out rfl (Below.refl _ _)
  · have HR : Hid (newB sq l = false) := by show newB sq l = false; unfold newB; simp [h1]
    have h4' : sq < 0 := by omega
    clear h1 hlen
    go_enter Try.func24, Try.ntmps24
    go_wp2_with fail
    go_ret2
    exact NewSt.no HR.out rfl (Below.refl _ _)

end Go.Proofs.Ytkgggioldpnfaaa
