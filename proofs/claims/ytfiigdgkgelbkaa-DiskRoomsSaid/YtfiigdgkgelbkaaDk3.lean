/-
  The disk's Room: a loop over its files, in an order that nobody knows.
-/
import Derived.Test.YtfiigdgkgelbkaaDk2
namespace Go.Mb
open Go.RowKit Go.WideMaps
/-- how many bytes the files have that are still to come -/
def leftSum (fs : List Fl) (left : Lit → Bool) : Nat := sumF (fs.filter fun f => left (keyL f.name))
theorem leftSum_start (fs : List Fl) : leftSum fs (Maps.has (flsD fs)) = sumF fs := by
  unfold leftSum
  congr 1
  rw [List.filter_eq_self]
  intro f hf
  rw [flsD_has]
  cases h : lookF fs f.name with
  | none => exact absurd rfl (lookF_none h f hf)
  | some g => rfl
theorem leftSum_end (fs : List Fl) {left : Lit → Bool} (h : ∀ k, left k = false) : leftSum fs left = 0 := by
  unfold leftSum
  rw [List.filter_eq_nil_iff.2 (fun f _ => by simp [h])]
  rfl
theorem leftSum_same {l : List Fl} {left : Lit → Bool} {k : ByteArray} (h : ∀ g ∈ l, g.name ≠ k) : leftSum l (fun z => left z && !z.sameKey (keyL k)) = leftSum l left := by
  unfold leftSum
  congr 1
  refine List.filter_congr fun g hg => ?_
  show (left (keyL g.name) && !(keyL g.name).sameKey (keyL k)) = _
  rw [keyL_same, decide_eq_false (h g hg)]
  simp
theorem leftSum_cons (a : Fl) (l : List Fl) (left : Lit → Bool) : leftSum (a :: l) left = (if left (keyL a.name) then a.data.size else 0) + leftSum l left := by
  unfold leftSum
  rw [List.filter_cons]
  split <;> simp [sumF]
theorem leftSum_step {f : Fl} {left : Lit → Bool} (hl : left (keyL f.name) = true) : ∀ {fs : List Fl}, SrtF fs → f ∈ fs → leftSum fs left = f.data.size + leftSum fs (fun z => left z && !z.sameKey (keyL f.name))
  | [], _, h => by cases h
  | a :: l, hs, h => by
    obtain ⟨h1, h2⟩ := List.pairwise_cons.1 hs
    have hlt : ∀ g ∈ l, g.name ≠ a.name := fun g hg e => by have := h1 g hg; rw [e, ltK_irrefl] at this; cases this
    rw [leftSum_cons, leftSum_cons]
    rcases List.mem_cons.1 h with rfl | h
    · rw [leftSum_same hlt, if_pos hl, if_neg (by rw [keyL_same]; simp)]
      omega
    · have ih := leftSum_step hl h2 h
      have hne : a.name ≠ f.name := fun e => hlt f h e.symm
      rw [ih, keyL_same, decide_eq_false hne]
      simp only [Bool.not_false, Bool.and_true]
      omega
theorem leftSum_le (fs : List Fl) (left : Lit → Bool) : leftSum fs left ≤ sumF fs := by
  unfold leftSum
  induction fs with
  | nil => exact Nat.le_refl _
  | cons a l ih =>
    rw [List.filter_cons]
    split <;> simp only [sumF, List.map_cons, List.sum_cons] at ih ⊢ <;> omega
/-- an entry that has come is a file -/
theorem entry_file {fs : List Fl} {x : ByteArray} {c : ByteArray × Int} {y : DataW Unit × List MemPlace} (hat : ∀ zd, (flsD fs).atKey (keyL x) zd = y.1) (hy : fileR (.agg #[.string c.1, .int .i64 c.2]) = some y) : ∃ f ∈ fs, f.name = x ∧ f.data = c.1 ∧ f.safe = c.2 := by
  simp only [flsD_at] at hat
  cases hl : lookF fs x with
  | none =>
    rw [hl] at hat
    have h1 := hat (.lit (.bool true))
    have h2 := hat (.lit (.bool false))
    rw [← h2] at h1
    cases h1
  | some f =>
    rw [hl] at hat
    have h1 := hat (.lit (.bool true))
    simp only at h1
    have h2 : fileR (.agg #[.string c.1, .int .i64 c.2]) = some (f.val, y.2) := by rw [hy, h1]
    have h3 := fileR_val h2
    obtain ⟨h4, h5⟩ := lookF_some hl
    injection h3 with h3
    simp at h3
    exact ⟨f, h4, h5, h3.1.symm, h3.2.symm⟩
theorem invK9 {P : Program} (hk : P.underlying 9 = some .string) : ∀ key kl, keyOf P 9 key = some kl → ∃ x : ByteArray, key = .string x := fun key kl h => by
  obtain ⟨s, h1, _⟩ := string_of_keyOf hk h
  exact ⟨s, h1⟩
theorem keyOf9 {P : Program} (hk : P.underlying 9 = some .string) {x : ByteArray} {kl : Lit} (h : keyOf P 9 (.string x) = some kl) : kl = keyL x := by
  obtain ⟨s, h1, h2, _⟩ := string_of_keyOf hk h
  cases h1
  exact h2
theorem invFile : ∀ v (y : DataW Unit × List MemPlace), fileR v = some y → ∃ c : ByteArray × Int, v = .agg #[.string c.1, .int .i64 c.2] := fun v y h => by
  obtain ⟨s, n, h1, _⟩ := fileR_inv h
  exact ⟨(s, n), h1⟩
/-- the step of a loop over files -/
theorem wpList_next_file {P : Program} (w : World) {ops : Array Oper} {rest : List Oper} {o : Oper} {a : Act} {Q : Exit → Act → World → Prop} (hg : o.guard = none) (it : Operand) (hop : o.op = Op.next it false) (K : Maps.Keyed P 9) (hk9 : P.underlying 9 = some .string)
    (b r n : Nat) (fs : List Fl) (left : Lit → Bool) (cnt : Nat) (hit : a.eval it = .pointer (some ⟨r, 0, none⟩)) (h : w.ranges P 9 fileR b r n (flsD fs) left cnt)
    (hDone : (∀ kl, left kl = false) → wpList P ops Q rest (a.put o.dst (.tuple #[.bool false])) w)
    (hMore : ∀ (f : Fl) (w' : World) (cnt' : Nat), f ∈ fs → left (keyL f.name) = true → w'.ranges P 9 fileR b r n (flsD fs) (fun z => left z && !z.sameKey (keyL f.name)) cnt' → cnt' < cnt → w.grownBy w' (some r) → w'.heap.size = w.heap.size →
      (Instr.entry (.pointer (some ⟨r, 0, none⟩))).run P w' = .ok (.tuple #[.string f.name, .agg #[.string f.data, .int .i64 f.safe]]) w' → wpList P ops Q rest (a.put o.dst (.tuple #[.bool true, .string f.name, .agg #[.string f.data, .int .i64 f.safe]])) w') :
    wpList P ops Q (o :: rest) a w := by
  refine wpList_next_ranges w hg it hop 9 K fileR (fun x : ByteArray => .string x) (fun c : ByteArray × Int => .agg #[.string c.1, .int .i64 c.2]) (invK9 hk9) invFile b r n (flsD fs) left cnt hit h (fun _ => hDone) ?_
  intro x c kl y w' cnt' hkx hlx hyv hat hrg hlt hgr hsz hen
  obtain rfl := keyOf9 hk9 hkx
  obtain ⟨f, hf, rfl, hfd, hfs⟩ := entry_file hat hyv
  obtain ⟨cd, cs⟩ := c
  simp only at hfd hfs
  subst hfd hfs
  exact hMore f w' cnt' hf hlx hrg hlt hgr hsz hen
end Go.Mb
namespace Go.Proofs.Ytfiigdgkgelbkaa
open Go.RowKit Go.Mb

set_option maxHeartbeats 1000000 in
set_option maxRecDepth 100000 in
theorem room_any (S m N : Nat) (d : Dk) (w : World) (h : DkAt Try.prog 63 w S m d N) : Calls Try.prog 17 #[.pointer (some ⟨S, 0, none⟩)] w (fun e w' => e = .returned (.int .i64 d.free) ∧ Below w.heap.size w w') := by
  obtain ⟨c0, c1, c2, c3, fz⟩ := h.cells
  obtain ⟨r0, r1⟩ := h.ok.room
  have hfit := h.ok.fits
  have hsrt := h.ok.srt
  have hown := h.own
  obtain ⟨room, fs, down, fall⟩ := d
  simp only at c0 c1 c2 c3 r0 r1 hfit hsrt hown
  have HS := Lib.hid hsrt
  have HF := Lib.hid (leftSum_start fs)
  clear h fz hsrt
  go_enter Try.func17, Try.ntmps17
  go_wp2_with (at_range; refine wpList_range_own _ rfl _ 61 rfl 9 66 Try.keyS Try.underlying61 _ m fs.length _ rfl hown ?_; intro w0 hrg0 hg0 hs0)
  go_frame
  have HRG := Lib.hid hrg0
  have HB0 : Hid (Below w.heap.size w w0) := ⟨hg0.os, hg0.tape, hg0.output, hg0.size, fun k hk => hg0.block k hk (by simp)⟩
  clear hrg0 hg0 hown
  go_loopw [3, 5] (fun v _ wr => ∃ (left : Lit → Bool) (cnt : Nat), v = .int .i64 (room - (sumF fs - leftSum fs left : Nat)) ∧ Hid (wr.ranges Try.prog 9 fileR m w.heap.size fs.length (flsD fs) left cnt) ∧ Hid (Below w.heap.size w wr))
    (fun _ _ wr => wr.rangeLeft m w.heap.size)
  case atStart => exact ⟨_, _, by rw [HF.out]; simp, HRG.out, HB0.out⟩
  case round =>
    obtain ⟨left, cnt, rfl, hrg, hb⟩ := hrel
    have hle := leftSum_le fs left
    have hleft := hrg.out.left_eq
    have HLE := Lib.hid hleft
    clear hleft
    go_wp2_with (at_next; refine wpList_next_file _ rfl _ rfl Try.keyS Try.underlying9 m w.heap.size fs.length fs _ _ rfl hrg.out ?_ ?_)
    · intro hl0
      have hz := leftSum_end fs hl0
      go_wp2_with fail
      go_ret
      exact ⟨ret_int (by unfold Dk.free; rw [hz]; simp), hb.out⟩
    · intro f w1 cnt1 hf hlx hrg1 hlt hg1 hs1 hen
      have hstep := leftSum_step hlx HS.out hf
      have hle1 := leftSum_le fs (fun z => left z && !z.sameKey (keyL f.name))
      have hb1 : Below w.heap.size w w1 := hb.out.grown hg1 hb.out.size (fun k hk => by cases hk; exact Nat.le_refl _)
      have hnum : room - ((sumF fs - leftSum fs left : Nat) : Int) - f.data.size = room - ((sumF fs - leftSum fs (fun z => left z && !z.sameKey (keyL f.name)) : Nat) : Int) := by omega
      have hbd : 0 ≤ room - ((sumF fs - leftSum fs left : Nat) : Int) ∧ room - ((sumF fs - leftSum fs left : Nat) : Int) ≤ 1048576 ∧ (f.data.size : Int) ≤ 1048576 := by omega
      obtain ⟨v, hv⟩ : ∃ v : Int, v = room - ((sumF fs - leftSum fs left : Nat) : Int) := ⟨_, rfl⟩
      rw [← hv] at hbd hnum ⊢
      have HN := Lib.hid hnum
      have HB1 := Lib.hid hb1
      have HR1 := Lib.hid hrg1
      obtain ⟨b1, b2, b3⟩ := hbd
      clear hg1 hstep hle1 hb1 hnum hv hrg1 hlx hle hf
      go_wp2_with fail
      go_roundw
      case rel => exact ⟨_, cnt1, congrArg (Value.int .i64) HN.out, HR1.out.alloc _, HB1.out.alloc (by have := HB1.out.size; omega) _⟩
      case measure => rw [HLE.out, (HR1.out.alloc _).left_eq]; exact hlt

end Go.Proofs.Ytfiigdgkgelbkaa
