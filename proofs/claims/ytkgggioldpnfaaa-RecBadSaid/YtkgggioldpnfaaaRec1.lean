/-
  rec.Commit: a commit as bytes; the law's example.
-/
import Derived.Test.YtkgggioldpnfaaaSto7
import Derived.Test.YtkgggioldpnfaaaEnc
import Derived.Laws.IdiomStrings
namespace Go.Mb
open Go.RowKit Go.Proofs.Ytkgggioldpnfaaa
def unB (v : Value) : UInt8 := match v with | .int _ x => UInt8.ofNat x.toNat | _ => 0
def bytesOf (xs : List Value) : ByteArray := ⟨(xs.map unB).toArray⟩
def allB (xs : List Value) : Prop := ∀ v ∈ xs, v = .int .u8 ((unB v).toNat : Int)
theorem allB_nil : allB [] := fun _ h => nomatch h
theorem allB_append {a b : List Value} (ha : allB a) (hb : allB b) : allB (a ++ b) := fun v hv => (List.mem_append.1 hv).elim (ha v) (hb v)
theorem allB_bc {n : Nat} (h : n < 256) : bc n = .int .u8 ((unB (bc n)).toNat : Int) := by
  unfold bc unB
  simp
  omega
theorem allB_one {n : Nat} (h : n < 256) : allB [bc n] := fun v hv => by rw [List.mem_singleton.1 hv]; exact allB_bc h
theorem allB_num {x : Nat} (hx : x ≤ 9223372036854775807) : allB (numC x) := by
  intro v hv
  rcases List.mem_cons.1 hv with rfl | hv
  · exact allB_bc (Nat.lt_of_le_of_lt (nsize_le8 x hx) (by decide))
  · obtain ⟨j, _, rfl⟩ := List.mem_map.1 hv
    exact allB_bc (Nat.mod_lt _ (by decide))
theorem allB_str (s : ByteArray) : allB (Lib.strCells s) := by
  intro v hv
  unfold Lib.strCells at hv
  obtain ⟨b, _, rfl⟩ := List.mem_map.1 hv
  simp [unB]
theorem allB_text {s : ByteArray} (hs : s.size ≤ 9223372036854775807) : allB (textC s) := allB_append (allB_num hs) (allB_str s)
theorem rightB_small {l : List Wr} (h : rightB l = true) : l.length ≤ 200 ∧ ∀ x ∈ l, x.key.size ≤ 400 ∧ x.val.size ≤ 4096 := by
  unfold rightB at h
  simp only [Bool.and_eq_true, decide_eq_true_eq] at h
  refine ⟨h.1, fun x hx => ?_⟩
  obtain ⟨i, hi⟩ := List.getElem?_of_mem hx
  have hb : badAt l i = false := by
    cases hc : badAt l i with
    | false => rfl
    | true => have := risesB_no (List.getElem?_eq_some_iff.1 hi).1 hc; rw [h.2] at this; cases this
  rw [badAt_eq hi] at hb
  simp only [Bool.or_eq_false_iff, wrBad, decide_eq_false_iff_not] at hb
  have h1 := hb.1.1.1.2
  have h2 := hb.1.1.2
  omega
theorem allB_writes {l : List Wr} (hl : l.length ≤ 1000000) (h : ∀ x ∈ l, x.key.size ≤ 400 ∧ x.val.size ≤ 4096) : allB (writesC l) := by
  unfold writesC
  refine allB_append (allB_num (by omega)) ?_
  intro v hv
  obtain ⟨x, hx, hv⟩ := List.mem_flatMap.1 hv
  obtain ⟨h1, h2⟩ := h x hx
  unfold wrC at hv
  exact allB_append (allB_append (allB_text (by omega)) (allB_one (by split <;> decide))) (allB_text (by omega)) v hv
theorem wrC_len {l : List Wr} (h : ∀ x ∈ l, x.key.size ≤ 400 ∧ x.val.size ≤ 4096) : (l.flatMap wrC).length ≤ 5000 * l.length := by
  induction l with
  | nil => simp
  | cons a l ih =>
    have h1 := ih (fun x hx => h x (List.mem_cons_of_mem _ hx))
    obtain ⟨h2, h3⟩ := h a (List.mem_cons_self ..)
    have h4 := nsize_le8 a.key.size (by omega)
    have h5 := nsize_le8 a.val.size (by omega)
    rw [List.flatMap_cons, List.length_append, List.length_cons]
    have h6 : (wrC a).length ≤ 5000 := by
      unfold wrC
      rw [List.length_append, List.length_append, textC_length, textC_length, List.length_singleton]
      omega
    omega
theorem writesC_len {l : List Wr} (hl : l.length ≤ 1000000) (h : ∀ x ∈ l, x.key.size ≤ 400 ∧ x.val.size ≤ 4096) : (writesC l).length ≤ 9 + 5000 * l.length := by
  unfold writesC
  have hn := nsize_le8 l.length (by omega)
  have h2 := wrC_len h
  rw [List.length_append, numC_length]
  omega
theorem cmC_len {sq tm : Int} {l : List Wr} (h : rightB l = true) (h1 : sq ≤ 9223372036854775807) (h2 : tm ≤ 9223372036854775807) : (cmC sq tm l).length ≤ 1100000 := by
  obtain ⟨a, b⟩ := rightB_small h
  have h3 := writesC_len (by omega) b
  unfold cmC
  rw [List.length_append, List.length_append, numC_length, numC_length]
  have := nsize_le8 sq.toNat (by omega)
  have := nsize_le8 tm.toNat (by omega)
  omega
theorem allB_cm {sq tm : Int} {l : List Wr} (h : rightB l = true) (h1 : sq ≤ 9223372036854775807) (h2 : tm ≤ 9223372036854775807) : allB (cmC sq tm l) := by
  obtain ⟨a, b⟩ := rightB_small h
  exact allB_append (allB_append (allB_num (by omega)) (allB_num (by omega))) (allB_writes (by omega) b)
end Go.Mb
namespace Go.Proofs.Ytkgggioldpnfaaa
open Go.RowKit Go.Mb
/-- string(b) of an owned row of bytes -/
theorem conv_own {B : Nat} {v : Value} {xs : List Value} {w : World} (h : BOwn B v xs w) (ha : allB xs) (h0 : 0 < xs.length) : (convert 61 9 v).run Try.prog w = .ok (.string (bytesOf xs)) w := by
  obtain ⟨g, cap, rfl, hc, _⟩ := own_form h h0
  have := run_convert_bytes_back (P := Try.prog) w 61 9 5 ⟨g, 0, none⟩ cap (xs.map unB) Try.underlying61 Try.underlying5 Try.underlying9 (fun j hj => by
    rw [List.length_map] at hj
    have h1 := h.cells (g := g) rfl j xs[j] (List.getElem?_eq_getElem hj)
    rw [h1, List.getElem_map]
    exact congrArg some (ha _ (List.getElem_mem hj)))
  rw [List.length_map] at this
  exact this
def RecSt (sq tm : Int) (l : List Wr) (w : World) (e : Ending) (w' : World) : Prop :=
  (if seqB sq && atB tm && rightB l then e = .returned (.tuple #[.string (bytesOf (cmC sq tm l)), .int .i64 0]) else e = .returned (.tuple #[.string ⟨#[]⟩, .int .i64 1])) ∧ Below w.heap.size w w'

set_option maxHeartbeats 1000000 in
set_option maxRecDepth 100000 in
theorem recCommit_any (B : Nat) (sq tm : Int) (ao : Option Addr) (n cap : Nat) (l : List Wr) (w : World) (h : RdW B w ao n cap l) (hB : B ≤ w.heap.size) :
    Calls Try.prog 29 #[.agg #[.int .i64 sq, .int .i64 tm, .slice ao n cap]] w (RecSt sq tm l w) := by
  obtain ⟨W0, hW0⟩ : ∃ W, W = w.alloc (Obj.cells #[.int .i64 sq, .int .i64 tm, .slice ao n cap] 28) := ⟨_, rfl⟩
  obtain ⟨g, hg⟩ : ∃ g, g = w.heap.size := ⟨_, rfl⟩
  have hblk : Blk W0 g 28 #[.int .i64 sq, .int .i64 tm, .slice ao n cap] := by rw [hW0, hg]; exact Blk.new _ _ _
  have hb0 : Below w.heap.size w W0 := by rw [hW0]; exact (Below.refl _ _).alloc (Nat.le_refl _) _
  have c0 : W0.cell? ⟨g, 0, none⟩ = some (.int .i64 sq) := hblk.cell 0
  have c1 : W0.cell? ⟨g, 1, none⟩ = some (.int .i64 tm) := hblk.cell 1
  have c2 : W0.cell? ⟨g, 2, none⟩ = some (.slice ao n cap) := hblk.cell 2
  have HRD : Hid (RdW B W0 ao n cap l) := h.below (hb0.mono hB)
  have hsz : w.heap.size ≤ W0.heap.size := hb0.size
  have hBW : B ≤ W0.heap.size := by omega
  have HW := Lib.hid hW0
  have HGG := Lib.hid hg
  have HBK := Lib.hid hblk
  have HB0 := Lib.hid hb0
  clear hW0 hg hblk hb0 h
  go_enter Try.func29, Try.ntmps29
  go_wp2_with fail
  rw [← HW.out, ← HGG.out]
  go_wp2_with fail
  refine (recRight_any B sq tm ao n cap l _ HRD.out hBW).mono ?_
  rintro e w1 ⟨rfl, hb1⟩
  have hb2 : Below w.heap.size w w1 := HB0.out.trans (hb1.mono hsz)
  cases hok : (seqB sq && atB tm && rightB l) with
  | false =>
    have HOK := Lib.hid hok
    clear hok
    go_wp2_with fail
    go_ret2
    exact ⟨by rw [HOK.out]; rfl, hb2⟩
  | true =>
    have hd := HBK.out.chg (Chg.of_below hb1 0 []) (.inr (by simp))
    have d0 : w1.cell? ⟨g, 0, none⟩ = some (.int .i64 sq) := hd.cell 0
    have d1 : w1.cell? ⟨g, 1, none⟩ = some (.int .i64 tm) := hd.cell 1
    have d2 : w1.cell? ⟨g, 2, none⟩ = some (.slice ao n cap) := hd.cell 2
    have HOK := Lib.hid hok
    have HRD1 : Hid (RdW B w1 ao n cap l) := HRD.out.below (hb1.mono hBW)
    have HB2 := Lib.hid hb2
    simp only [seqB, atB, Bool.and_eq_true, decide_eq_true_eq] at hok
    obtain ⟨⟨⟨q1, q2⟩, q3, q4⟩, q5⟩ := hok
    have HQ5 := Lib.hid q5
    clear q5 hd hb1 hb2
    go_wp2_with fail
    refine (commitEnc_any w1.heap.size B (.slice none 0 0) [] sq tm ao n cap l _ ⟨rfl, .inl ⟨rfl, rfl⟩⟩ (Nat.le_refl _) HRD1.out (by have := HB2.out.size; omega) (by have := cmC_len HQ5.out (sq := sq) (tm := tm) (by omega) (by omega); simp only [List.nil_append]; omega) (by omega) (by omega) (by omega) (by omega)).mono ?_
    rintro e w2 ⟨v2, rfl, ho2, hc2⟩
    have hpos : 0 < (cmC sq tm l).length := by unfold cmC; rw [List.length_append, List.length_append, numC_length]; omega
    have hcv := conv_own ho2 (by rw [List.nil_append]; exact allB_cm HQ5.out (by omega) (by omega)) hpos
    rw [List.nil_append] at hcv
    have hb3 : Below w.heap.size w w2 := HB2.out.trans ((hc2.below (Nat.le_refl _)).mono HB2.out.size)
    have HB3 := Lib.hid hb3
    clear ho2 hc2 hb3 hpos
    dsimp only
    go_wp2_with fail
    go_ret2
    exact ⟨by rw [HOK.out]; rfl, HB3.out⟩
end Go.Proofs.Ytkgggioldpnfaaa
