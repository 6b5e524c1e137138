/-
  In which leaf a key is: leaf$1, sort.Search at it, (*Tree).leaf, (*Tree).find.
-/
import Derived.Test.YtkgggioldpnfaaaFnd
import Derived.BigQuiet
import Derived.Deep.QuietTactic
import Derived.BigRegion
namespace Go.Mb
open Go.RowKit
structure Lf where
  ao : Option Addr
  n : Nat
  cap : Nat
  its : List It
def Lf.cells (f : Lf) : List Value := [.slice f.ao f.n f.cap]
/-- the first key of a leaf -/
def Lf.hd (f : Lf) : ByteArray := match f.its.head? with | none => ⟨#[]⟩ | some x => x.key
/-- a tree at ⟨S, o⟩ that reads: its leaves, none empty -/
structure TrRd (B : Nat) (w : World) (S o : Nat) (lo : Option Addr) (ln lcap : Nat) (fs : List Lf) : Prop where
  blk : S < B
  cell : w.cell? ⟨S, o, none⟩ = some (.slice lo ln lcap)
  rows : Rd 1 B w lo ln lcap (fs.map Lf.cells)
  leaf : ∀ f ∈ fs, RdI B w f.ao f.n f.cap f.its ∧ 0 < f.n ∧ f.n ≤ 1000000
  few : ln ≤ 1000000
theorem TrRd.below {B : Nat} {w w' : World} {S o : Nat} {lo : Option Addr} {ln lcap : Nat} {fs : List Lf} (h : TrRd B w S o lo ln lcap fs) (hb : Below B w w') : TrRd B w' S o lo ln lcap fs :=
  ⟨h.blk, (hb.cell h.blk).trans h.cell, h.rows.below hb, fun f hf => ⟨(h.leaf f hf).1.below hb, (h.leaf f hf).2⟩, h.few⟩
theorem TrRd.mono {B B' : Nat} {w : World} {S o : Nat} {lo : Option Addr} {ln lcap : Nat} {fs : List Lf} (h : TrRd B w S o lo ln lcap fs) (hb : B ≤ B') : TrRd B' w S o lo ln lcap fs :=
  ⟨Nat.lt_of_lt_of_le h.blk hb, h.cell, h.rows.mono hb, fun f hf => ⟨(h.leaf f hf).1.mono hb, (h.leaf f hf).2⟩, h.few⟩
theorem TrRd.drewN {B : Nat} {w : World} {S o : Nat} {lo : Option Addr} {ln lcap : Nat} {fs : List Lf} (h : TrRd B w S o lo ln lcap fs) (q : Nat) : TrRd B (w.drewN q) S o lo ln lcap fs :=
  ⟨h.blk, h.cell, h.rows.drewN q, fun f hf => ⟨(h.leaf f hf).1.drewN q, (h.leaf f hf).2⟩, h.few⟩
theorem Lf.wide (l : List Lf) : ∀ x ∈ l.map Lf.cells, x.length = 1 := by
  intro x hx
  obtain ⟨y, _, rfl⟩ := List.mem_map.1 hx
  rfl
theorem TrRd.len {B : Nat} {w : World} {S o : Nat} {lo : Option Addr} {ln lcap : Nat} {fs : List Lf} (h : TrRd B w S o lo ln lcap fs) : fs.length = ln := by have := h.rows.len; simpa using this
theorem TrRd.at_ {B : Nat} {w : World} {S o : Nat} {lo : Option Addr} {ln lcap : Nat} {fs : List Lf} (h : TrRd B w S o lo ln lcap fs) {i : Nat} {f : Lf} (hf : fs[i]? = some f) {b off : Nat} (e : lo = some ⟨b, off, none⟩) :
    w.cell? ⟨b, off + i, none⟩ = some (.slice f.ao f.n f.cap) := by
  have hi : i < fs.length := (List.getElem?_eq_some_iff.1 hf).1
  obtain ⟨b', off', e', _, hc⟩ := h.rows.cells (by have := h.len; omega)
  rw [e] at e'
  cases e'
  have hm : (fs.map Lf.cells)[i]? = some f.cells := by simp [hf]
  have := hc i _ hm 0 _ rfl
  simpa using this
theorem Lf.hd_at {B : Nat} {w : World} {f : Lf} (h : RdI B w f.ao f.n f.cap f.its) (h0 : 0 < f.n) : ∃ b off, f.ao = some ⟨b, off, none⟩ ∧ b < B ∧ w.cell? ⟨b, off, none⟩ = some (.string f.hd) := by
  obtain ⟨b, off, e, hb, hc⟩ := h.cells h0
  have hl := h.len
  simp at hl
  obtain ⟨x, hx⟩ : ∃ x, f.its[0]? = some x := ⟨f.its[0]'(by omega), List.getElem?_eq_getElem _⟩
  have h1 := (RdI.at_ h hx e).1
  refine ⟨b, off, e, hb, ?_⟩
  have : f.hd = x.key := by
    unfold Lf.hd
    rw [List.head?_eq_getElem?, hx]
  rw [this]
  simpa using h1
end Go.Mb
namespace Go.Proofs.Ytkgggioldpnfaaa
open Go.RowKit Go.Mb

set_option maxHeartbeats 1000000 in
set_option maxRecDepth 100000 in
theorem leaf1_any (B : Nat) (S o : Nat) (lo : Option Addr) (ln lcap : Nat) (fs : List Lf) (key : ByteArray) (bt bk i : Nat) (f : Lf) (w : World) (h : TrRd B w S o lo ln lcap fs)
    (ht : w.cell? ⟨bt, 0, none⟩ = some (.pointer (some ⟨S, o, none⟩))) (hk : w.cell? ⟨bk, 0, none⟩ = some (.string key)) (hi : fs[i]? = some f) :
    Calls Try.prog 95 #[.int .i64 i, .pointer (some ⟨bt, 0, none⟩), .pointer (some ⟨bk, 0, none⟩)] w (fun e w' => e = .returned (.bool (ltK key f.hd)) ∧ ∃ n, w' = w.drewN n) := by
  have hlt : i < ln := by rw [← h.len]; exact (List.getElem?_eq_some_iff.1 hi).1
  have hmax := h.rows.max
  have hle := h.rows.le
  unfold maxLen at hmax
  obtain ⟨b, off, rfl, hb, hc⟩ := h.rows.cells (by omega)
  have c0 := h.cell
  have c1 := h.at_ hi rfl
  obtain ⟨hf1, hf2, hf3⟩ := h.leaf f (List.mem_of_getElem? hi)
  obtain ⟨b2, off2, e2, hb2, c2⟩ := Lf.hd_at hf1 hf2
  rw [e2] at c1
  have hr := gtr_raw f.hd key
  have HR := Lib.hid hr
  have h0i : (0 : Int) < f.n := by omega
  have h1i : (i : Int) < ln := by omega
  clear hc h hi hf1 e2 hr
  go_enter Try.func95, Try.ntmps95
  go_wp2_with fail
  go_quiet (fail)
  go_wp2_with fail
  go_ret
  exact ⟨ret_bool (by rw [← HR.out]; simp), ⟨_, rfl⟩⟩

/-- what the search over the leaves hands back -/
def LeafSearched (fs : List Lf) (key : ByteArray) (w : World) (e : Ending) (w' : World) : Prop :=
  ∃ i : Nat, i ≤ fs.length ∧ (∀ f, 0 < i → fs[i - 1]? = some f → ltK key f.hd = false) ∧ (∀ f, fs[i]? = some f → ltK key f.hd = true) ∧ e = .returned (.int .i64 i) ∧ ∃ n, w' = w.drewN n

set_option maxHeartbeats 1000000 in
set_option maxRecDepth 100000 in
theorem search_any (B : Nat) (S o : Nat) (lo : Option Addr) (ln lcap : Nat) (fs : List Lf) (key : ByteArray) (bt bk : Nat) (w : World) (h : TrRd B w S o lo ln lcap fs)
    (ht : w.cell? ⟨bt, 0, none⟩ = some (.pointer (some ⟨S, o, none⟩))) (hk : w.cell? ⟨bk, 0, none⟩ = some (.string key)) :
    Calls Try.prog 94 #[.int .i64 ln, .func (.func 95) #[] #[.pointer (some ⟨bt, 0, none⟩), .pointer (some ⟨bk, 0, none⟩)]] w (LeafSearched fs key w) := by
  have hlen := h.len
  have hle := h.rows.le
  have hmax := h.rows.max
  unfold maxLen at hmax
  have hln := h.few
  have HT := Lib.hid h
  have HL := Lib.hid hlen
  have HB := Lib.hid ht
  have HK := Lib.hid hk
  clear h hlen ht hk
  go_enter Try.func94, Try.ntmps94
  go_wp2_with fail
  go_loopw [5, 6, 7] (fun i j _ wr => ∃ a b q : Nat, i = .int .i64 a ∧ j = .int .i64 b ∧ a ≤ b ∧ b ≤ ln ∧ Hid (∀ f, 0 < a → fs[a - 1]? = some f → ltK key f.hd = false) ∧ Hid (∀ f, fs[b]? = some f → ltK key f.hd = true) ∧ wr = w.drewN q) (fun i j _ _ => (intOf j - intOf i).toNat)
  case atStart => exact ⟨0, ln, 0, rfl, rfl, Nat.zero_le _, Nat.le_refl _, (fun x h0 => absurd h0 (Nat.lt_irrefl _)), (fun x hx => by rw [List.getElem?_eq_none (by rw [HL.out]; exact Nat.le_refl _)] at hx; cases hx), rfl⟩
  case round =>
    obtain ⟨a, b, q, rfl, rfl, hab, hbn, hlo, hhi, rfl⟩ := hrel
    by_cases hlt : a < b
    · have hm1 : (a + b) / 2 < ln := by omega
      obtain ⟨f, hf⟩ : ∃ f, fs[(a + b) / 2]? = some f := ⟨fs[(a + b) / 2]'(by rw [HL.out]; omega), List.getElem?_eq_getElem _⟩
      have HF := Lib.hid hf
      clear hf
      go_wp2_with fail
      refine (leaf1_any B S o lo ln lcap fs key bt bk ((a + b) / 2) f _ (HT.out.drewN _) HB.out HK.out HF.out).mono ?_
      rintro e w1 ⟨rfl, q1, rfl⟩
      cases hcmp : ltK key f.hd
      · go_wp2_with fail
        go_roundw
        case rel => exact ⟨(a + b) / 2 + 1, b, q + q1, by go_num, rfl, by omega, hbn, (fun y _ hy => by
            rw [Nat.add_sub_cancel, HF.out] at hy
            cases hy
            exact hcmp), hhi, rfl⟩
        case measure => simp [intOf]; omega
      · go_wp2_with fail
        go_roundw
        case rel => exact ⟨a, (a + b) / 2, q + q1, rfl, by go_num, by omega, by omega, hlo, (fun y hy => by
            rw [HF.out] at hy
            cases hy
            exact hcmp), rfl⟩
        case measure => simp [intOf]; omega
    · obtain rfl : a = b := by omega
      go_wp2_with fail
      go_ret
      exact ⟨a, by rw [HL.out]; omega, hlo.out, hhi.out, rfl, q, rfl⟩

/-- in which leaf the key is, or would be -/
def LeafAt (fs : List Lf) (key : ByteArray) (w : World) (e : Ending) (w' : World) : Prop :=
  ∃ i : Nat, i ≤ fs.length ∧ (∀ f, 0 < i → fs[i - 1]? = some f → ltK key f.hd = false) ∧ (∀ f, fs[i]? = some f → ltK key f.hd = true) ∧ e = .returned (.int .i64 ((i - 1 : Nat) : Int)) ∧ Below w.heap.size w w'

set_option maxHeartbeats 1000000 in
set_option maxRecDepth 100000 in
theorem leaf_any (B : Nat) (S o : Nat) (lo : Option Addr) (ln lcap : Nat) (fs : List Lf) (key : ByteArray) (w : World) (h : TrRd B w S o lo ln lcap fs) (hB : B ≤ w.heap.size) :
    Calls Try.prog 79 #[.pointer (some ⟨S, o, none⟩), .string key] w (LeafAt fs key w) := by
  have hle := h.rows.le
  have hln := h.few
  have hlen := h.len
  have HL := Lib.hid hlen
  obtain ⟨W, hW⟩ : ∃ W, W = (w.alloc (.cells #[.pointer (some ⟨S, o, none⟩)] 120)).alloc (.cells #[.string key] 9) := ⟨_, rfl⟩
  have hb : Below w.heap.size w W := by rw [hW]; exact ((Below.refl _ _).alloc (Nat.le_refl _) _).alloc (by simp) _
  have hT := h.below (hb.mono hB)
  have c0 : W.cell? ⟨w.heap.size, 0, none⟩ = some (.pointer (some ⟨S, o, none⟩)) := by rw [hW, World.cell?_alloc_lt _ _ _ (by simp), (Blk.new w 120 #[.pointer (some ⟨S, o, none⟩)]).cell 0]; rfl
  have c1 : W.cell? ⟨w.heap.size + 1, 0, none⟩ = some (.string key) := by
    rw [hW]
    have := (Blk.new (w.alloc (.cells #[.pointer (some ⟨S, o, none⟩)] 120)) 9 #[.string key]).cell 0
    simp only [World.size_alloc] at this
    exact this
  have c2 : ∀ o1 o2, ((w.alloc o1).alloc o2).cell? ⟨S, o, none⟩ = some (.slice lo ln lcap) := fun o1 o2 =>
    ((((Below.refl B w).alloc hB o1).alloc (by simp; omega) o2).cell h.blk).trans h.cell
  have HT := Lib.hid hT
  have HW := Lib.hid hW
  have HBB := Lib.hid hb
  have HC0 := Lib.hid c0
  have HC1 := Lib.hid c1
  clear hT hW hb h hlen c0 c1
  go_enter Try.func79, Try.ntmps79
  go_wp2_with fail
  rw [← HW.out]
  refine (search_any B S o lo ln lcap fs key _ _ W HT.out HC0.out HC1.out).mono ?_
  rintro e w1 ⟨i, hi, hlo, hhi, rfl, q, rfl⟩
  have H1 := Lib.hid hlo
  have H2 := Lib.hid hhi
  rw [HL.out] at hi
  clear hlo hhi
  go_wp2_with fail
  all_goals go_ret
  all_goals refine ⟨i, by rw [HL.out]; exact hi, H1.out, H2.out, ret_int (by omega), HBB.out.trans ⟨rfl, rfl, rfl, Nat.le_refl _, fun _ _ => rfl⟩⟩

/-- where a key is in a tree, or would be -/
def TSpot (fs : List Lf) (key : ByteArray) (i k : Nat) (there : Bool) : Prop :=
  (fs = [] ∧ i = 0 ∧ k = 0 ∧ there = false) ∨
  ∃ n f, n ≤ fs.length ∧ (∀ f, 0 < n → fs[n - 1]? = some f → ltK key f.hd = false) ∧ (∀ f, fs[n]? = some f → ltK key f.hd = true) ∧ i = n - 1 ∧ fs[i]? = some f ∧ Spot f.its key k ∧ there = isAt f.its key k
def Finds (fs : List Lf) (key : ByteArray) (w : World) (e : Ending) (w' : World) : Prop :=
  ∃ (i k : Nat) (there : Bool), TSpot fs key i k there ∧ e = .returned (.tuple #[.int .i64 i, .int .i64 k, .bool there]) ∧ Below w.heap.size w w'

set_option maxHeartbeats 1000000 in
set_option maxRecDepth 100000 in
theorem find_any (B : Nat) (S o : Nat) (lo : Option Addr) (ln lcap : Nat) (fs : List Lf) (key : ByteArray) (w : World) (h : TrRd B w S o lo ln lcap fs) (hB : B ≤ w.heap.size) :
    Calls Try.prog 62 #[.pointer (some ⟨S, o, none⟩), .string key] w (Finds fs key w) := by
  have hle := h.rows.le
  have hln := h.few
  have hlen := h.len
  have hmax := h.rows.max
  unfold maxLen at hmax
  have c0 := h.cell
  by_cases h0 : ln = 0
  · have hf : fs = [] := List.eq_nil_of_length_eq_zero (by omega)
    subst h0
    have HF := Lib.hid hf
    clear h hf hlen
    go_enter Try.func62, Try.ntmps62
    go_wp2_with fail
    go_ret3
    exact ⟨0, 0, false, .inl ⟨HF.out, rfl, rfl, rfl⟩, rfl, Below.refl _ _⟩
  · have h1 : 0 < ln := by omega
    have d1 : ((ln : Int) == 0) = false := by simp; omega
    have HL := Lib.hid hlen
    have HT := Lib.hid h
    clear hlen h h0
    go_enter Try.func62, Try.ntmps62
    go_wp2_with fail
    refine (leaf_any B S o lo ln lcap fs key w HT.out hB).mono ?_
    rintro e w1 ⟨n, hn, hlo, hhi, rfl, hb⟩
    have hni : n - 1 < ln := by rw [HL.out] at hn; omega
    obtain ⟨f, hf⟩ : ∃ f, fs[n - 1]? = some f := ⟨fs[n - 1]'(by rw [HL.out]; exact hni), List.getElem?_eq_getElem _⟩
    have ht1 := HT.out.below (hb.mono hB)
    obtain ⟨b, off, rfl, hbb, hc⟩ := ht1.rows.cells h1
    have c1 := ht1.at_ hf rfl
    have c2 := ht1.cell
    obtain ⟨hl1, hl2, hl3⟩ := ht1.leaf f (List.mem_of_getElem? hf)
    have hsz := hb.size
    have HT1 := Lib.hid hl1
    have H1 := Lib.hid hlo
    have H2 := Lib.hid hhi
    have H3 := Lib.hid hf
    have H4 := Lib.hid hb
    have H5 := Lib.hid hn
    clear ht1 hc hl1 hlo hhi hf hb hn c0
    go_wp2_with fail
    refine (bsearchI_any B f.ao f.n f.cap f.its key w1 HT1.out (by omega) hl3).mono ?_
    rintro e w2 ⟨k, hs, rfl, hb2⟩
    have H6 := Lib.hid hs
    have H7 := Lib.hid hb2
    clear hs hb2
    go_wp2_with fail
    go_ret3
    exact ⟨n - 1, k, _, .inr ⟨n, f, H5.out, H1.out, H2.out, rfl, H3.out, H6.out, rfl⟩, rfl, H4.out.trans (H7.out.mono hsz)⟩

end Go.Proofs.Ytkgggioldpnfaaa
