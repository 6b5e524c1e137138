/-
  A sorted tree as one list: where a key is found, what an insertion makes of it. No walk here.
-/
import Derived.Test.YtkgggioldpnfaaaTr2
namespace Go.Mb
open Go.Proofs.Ytkgggioldpnfaaa
def Srt (l : List It) : Prop := l.Pairwise fun a b => ltK a.key b.key = true
/-- the item of a key -/
def lookK (l : List It) (key : ByteArray) : Option It := l.find? fun x => decide (x.key = key)
/-- a sorted list with an item put in, instead of the one of its key -/
def ups (l : List It) (x : It) : List It := l.filter (fun y => ltK y.key x.key) ++ x :: l.filter (fun y => ltK x.key y.key)

theorem filter_all {p : It → Bool} {l : List It} (h : ∀ a ∈ l, p a = true) : l.filter p = l := List.filter_eq_self.2 h
theorem filter_none {p : It → Bool} {l : List It} (h : ∀ a ∈ l, p a = false) : l.filter p = [] := List.filter_eq_nil_iff.2 fun a ha => by rw [h a ha]; exact Bool.false_ne_true
theorem ups_mid {A B : List It} {x : It} (hA : ∀ a ∈ A, ltK a.key x.key = true) (hB : ∀ b ∈ B, ltK x.key b.key = true) : ups (A ++ B) x = A ++ x :: B := by
  unfold ups
  rw [List.filter_append, List.filter_append, filter_all hA, filter_none (l := B) (fun b hb => ltK_asymm (hB b hb)), filter_none (l := A) (fun a ha => ltK_asymm (hA a ha)), filter_all hB]
  simp
theorem ups_at {A B : List It} {x y : It} (hA : ∀ a ∈ A, ltK a.key x.key = true) (hB : ∀ b ∈ B, ltK x.key b.key = true) (e : y.key = x.key) : ups (A ++ y :: B) x = A ++ x :: B := by
  unfold ups
  rw [List.filter_append, List.filter_append, filter_all hA, filter_none (l := A) (fun a ha => ltK_asymm (hA a ha)), List.filter_cons, List.filter_cons, e, ltK_irrefl, filter_none (l := B) (fun b hb => ltK_asymm (hB b hb)), filter_all hB]
  simp

theorem Srt.append {A B : List It} (h : Srt (A ++ B)) : Srt A ∧ Srt B ∧ ∀ a ∈ A, ∀ b ∈ B, ltK a.key b.key = true := List.pairwise_append.1 h
theorem flat_cons (f : Lf) (fs : List Lf) : flat (f :: fs) = f.its ++ flat fs := by simp [flat]
theorem flat_append (a b : List Lf) : flat (a ++ b) = flat a ++ flat b := by simp [flat]
theorem flat_nil : flat [] = [] := rfl
theorem flat_at {fs : List Lf} {i : Nat} {f : Lf} (h : fs[i]? = some f) : flat fs = flat (fs.take i) ++ (f.its ++ flat (fs.drop (i + 1))) := by
  obtain ⟨hi, rfl⟩ := List.getElem?_eq_some_iff.1 h
  conv => lhs; rw [← List.take_append_drop i fs, List.drop_eq_getElem_cons hi]
  rw [flat_append, flat_cons]
theorem flat_set {fs : List Lf} {i : Nat} {f f' : Lf} (h : fs[i]? = some f) : flat (fs.set i f') = flat (fs.take i) ++ (f'.its ++ flat (fs.drop (i + 1))) := by
  obtain ⟨hi, rfl⟩ := List.getElem?_eq_some_iff.1 h
  rw [List.set_eq_take_append_cons_drop, if_pos hi, flat_append, flat_cons]

theorem hd_mem {f : Lf} (h : 0 < f.its.length) : ∃ x, f.its[0]? = some x ∧ f.hd = x.key := by
  refine ⟨f.its[0], List.getElem?_eq_getElem h, ?_⟩
  unfold Lf.hd
  rw [List.head?_eq_getElem?, List.getElem?_eq_getElem h]

theorem le_trans_K {a b c : ByteArray} (h1 : ltK a b = false) (h2 : ltK b c = false) : ltK a c = false := by
  rw [Bool.eq_false_iff]
  intro h
  rcases ltK_total a b with h3 | rfl | h3
  · rw [h3] at h1; cases h1
  · rw [h] at h2; cases h2
  · have := ltK_trans h3 h
    rw [this] at h2; cases h2

/-- what stands ahead of the place, and behind it -/
structure Parted (fs : List Lf) (key : ByteArray) (i k : Nat) (f : Lf) : Prop where
  at_ : fs[i]? = some f
  le : k ≤ f.its.length
  lo : ∀ a ∈ flat (fs.take i) ++ f.its.take k, ltK a.key key = true
  hi : ∀ b ∈ f.its.drop k ++ flat (fs.drop (i + 1)), ltK b.key key = false
  last : f.its.length ≤ k → ∀ b ∈ flat (fs.drop (i + 1)), ltK key b.key = true

theorem take_lt {l : List It} (h : Srt l) {key : ByteArray} {k : Nat} (hs : ∀ x, 0 < k → l[k - 1]? = some x → ltK x.key key = true) (hk : k ≤ l.length) : ∀ a ∈ l.take k, ltK a.key key = true := by
  intro a ha
  rcases Nat.eq_zero_or_pos k with rfl | h0
  · simp at ha
  · obtain ⟨x, hx⟩ : ∃ x, l[k - 1]? = some x := ⟨l[k - 1]'(by omega), List.getElem?_eq_getElem _⟩
    have hxk := hs x h0 hx
    obtain ⟨j, hj⟩ := List.mem_iff_getElem?.1 ha
    rw [List.getElem?_take] at hj
    split at hj
    · rename_i hjk
      rcases Nat.lt_or_ge j (k - 1) with hlt | hge
      · obtain ⟨h1, e1⟩ := List.getElem?_eq_some_iff.1 hj
        obtain ⟨h2, e2⟩ := List.getElem?_eq_some_iff.1 hx
        have := List.pairwise_iff_getElem.1 h j (k - 1) h1 h2 hlt
        rw [e1, e2] at this
        exact ltK_trans this hxk
      · have : j = k - 1 := by omega
        subst this
        rw [hx] at hj
        cases hj
        exact hxk
    · cases hj
theorem drop_ge {l : List It} (h : Srt l) {key : ByteArray} {k : Nat} (hs : ∀ x, l[k]? = some x → ltK x.key key = false) : ∀ b ∈ l.drop k, ltK b.key key = false := by
  intro b hb
  obtain ⟨j, hj⟩ := List.mem_iff_getElem?.1 hb
  rw [List.getElem?_drop] at hj
  obtain ⟨h1, e1⟩ := List.getElem?_eq_some_iff.1 hj
  obtain ⟨x, hx⟩ : ∃ x, l[k]? = some x := ⟨l[k]'(by omega), List.getElem?_eq_getElem _⟩
  have hxk := hs x hx
  obtain ⟨h2, e2⟩ := List.getElem?_eq_some_iff.1 hx
  rcases Nat.eq_zero_or_pos j with rfl | h0
  · rw [Nat.add_zero] at hj; rw [hx] at hj; cases hj; exact hxk
  · have := List.pairwise_iff_getElem.1 h k (k + j) h2 h1 (by omega)
    rw [e1, e2] at this
    exact le_trans_K (ltK_asymm this) hxk

/-- WHERE THE SEARCH COMES TO, in a sorted tree -/
theorem TSpot_parted {fs : List Lf} {key : ByteArray} {i k : Nat} {there : Bool} (h : TSpot fs key i k there) (hne : fs ≠ []) (hs : Srt (flat fs)) (hl : ∀ f ∈ fs, 0 < f.its.length) :
    ∃ f, Parted fs key i k f ∧ there = isAt f.its key k := by
  rcases h with ⟨e, _⟩ | ⟨n, f, hn, hlo, hhi, rfl, hf, hsp, rfl⟩
  · exact absurd e hne
  · have hd := flat_at hf
    rw [hd] at hs
    obtain ⟨s1, s2, s3⟩ := hs.append
    obtain ⟨s4, s5, s6⟩ := s2.append
    have hfm := List.mem_of_getElem? hf
    obtain ⟨x0, hx0, hh0⟩ := hd_mem (hl f hfm)
    have hx0m : x0 ∈ f.its := List.mem_of_getElem? hx0
    have hlater : f.its.length ≤ k → ∀ b ∈ flat (fs.drop (n - 1 + 1)), ltK key b.key = true := fun hk b hb => by
      obtain ⟨f2, hf2, hb2⟩ : ∃ f2 ∈ fs.drop (n - 1 + 1), b ∈ f2.its := by simpa [flat] using hb
      have hn0 : 0 < n := by
        rcases Nat.eq_zero_or_pos n with rfl | h0
        · exfalso
          have h1 := hhi f hf
          rw [hh0] at h1
          have h2 := take_lt s4 hsp.lo hsp.le x0 (by rw [List.take_of_length_le hk]; exact hx0m)
          rw [ltK_asymm h1] at h2
          cases h2
        · exact h0
      have hlt : n < fs.length := by
        have := List.length_pos_of_mem hf2
        simp at this
        omega
      have hfn : fs[n]? = some fs[n] := List.getElem?_eq_getElem hlt
      have h1 := hhi _ hfn
      obtain ⟨y, hy, hhy⟩ := hd_mem (hl fs[n] (List.getElem_mem hlt))
      rw [hhy] at h1
      have e : n - 1 + 1 = n := by omega
      rw [e] at hf2 s5 hb
      rw [List.drop_eq_getElem_cons hlt, flat_cons] at s5 hb
      obtain ⟨t1, t2, t3⟩ := s5.append
      rcases List.mem_append.1 hb with hb | hb
      · obtain ⟨j, hj⟩ := List.mem_iff_getElem?.1 hb
        rcases Nat.eq_zero_or_pos j with rfl | h0
        · rw [hy] at hj; cases hj; exact h1
        · obtain ⟨q1, e1⟩ := List.getElem?_eq_some_iff.1 hj
          obtain ⟨q2, e2⟩ := List.getElem?_eq_some_iff.1 hy
          have := List.pairwise_iff_getElem.1 t1 0 j q2 q1 h0
          rw [e1, e2] at this
          exact ltK_trans h1 this
      · exact ltK_trans h1 (t3 y (List.mem_of_getElem? hy) b hb)
    refine ⟨f, ⟨hf, hsp.le, fun a ha => ?_, fun b hb => ?_, hlater⟩, rfl⟩
    · rcases List.mem_append.1 ha with ha | ha
      · -- an item of an earlier leaf: less than this leaf's first key, which is not behind the key
        have hn0 : 0 < n := by
          rcases Nat.eq_zero_or_pos n with rfl | h0
          · simp [flat] at ha
          · exact h0
        have h1 := s3 a ha x0 (by simp [hx0m])
        have h2 := hlo f hn0 hf
        rw [hh0] at h2
        rcases ltK_total x0.key key with h3 | h3 | h3
        · exact ltK_trans h1 h3
        · rw [← h3]; exact h1
        · rw [h3] at h2; cases h2
      · exact take_lt s4 hsp.lo hsp.le a ha
    · rcases List.mem_append.1 hb with hb | hb
      · exact drop_ge s4 hsp.hi b hb
      · -- an item of a later leaf
        rcases Nat.lt_or_ge k f.its.length with hk | hk
        · obtain ⟨x, hx⟩ : ∃ x, f.its[k]? = some x := ⟨f.its[k], List.getElem?_eq_getElem hk⟩
          have h1 := hsp.hi x hx
          have h2 := s6 x (List.mem_of_getElem? hx) b hb
          exact le_trans_K (ltK_asymm h2) h1
        · exact ltK_asymm (hlater hk b hb)
end Go.Mb
namespace Go.Mb
open Go.Proofs.Ytkgggioldpnfaaa
theorem isAt_iff {l : List It} {key : ByteArray} {k : Nat} : isAt l key k = true ↔ ∃ x, l[k]? = some x ∧ x.key = key := by
  unfold isAt
  cases h : l[k]? with
  | none => simp
  | some x => simp [cmpK_zero]
theorem Parted.split {fs : List Lf} {key : ByteArray} {i k : Nat} {f : Lf} (h : Parted fs key i k f) : flat fs = (flat (fs.take i) ++ f.its.take k) ++ (f.its.drop k ++ flat (fs.drop (i + 1))) := by
  rw [flat_at h.at_, List.append_assoc, ← List.append_assoc (f.its.take k), List.take_append_drop]
theorem lookK_mid {A B : List It} {key : ByteArray} (hA : ∀ a ∈ A, ltK a.key key = true) (hB : ∀ b ∈ B, b.key ≠ key) : lookK (A ++ B) key = none := by
  unfold lookK
  rw [List.find?_eq_none]
  intro x hx
  rcases List.mem_append.1 hx with h | h
  · have := hA x h
    simp only [decide_eq_true_eq]
    rintro rfl
    rw [ltK_irrefl] at this
    cases this
  · simpa using hB x h
theorem lookK_at {A B : List It} {key : ByteArray} {x : It} (hA : ∀ a ∈ A, ltK a.key key = true) (e : x.key = key) : lookK (A ++ x :: B) key = some x := by
  unfold lookK
  rw [List.find?_append, List.find?_eq_none.2]
  · simp [e]
  · intro y hy
    have := hA y hy
    simp only [decide_eq_true_eq]
    rintro rfl
    rw [ltK_irrefl] at this
    cases this
/-- the item is there -/
theorem Parted.yes {fs : List Lf} {key : ByteArray} {i k : Nat} {f : Lf} (h : Parted fs key i k f) (ht : isAt f.its key k = true) : ∃ x, f.its[k]? = some x ∧ x.key = key ∧ lookK (flat fs) key = some x := by
  obtain ⟨x, hx, e⟩ := isAt_iff.1 ht
  refine ⟨x, hx, e, ?_⟩
  obtain ⟨hk, e2⟩ := List.getElem?_eq_some_iff.1 hx
  rw [h.split, List.drop_eq_getElem_cons hk, e2, List.cons_append]
  exact lookK_at h.lo e
/-- all that stands behind the place is behind the key -/
theorem Parted.above {fs : List Lf} {key : ByteArray} {i k : Nat} {f : Lf} (h : Parted fs key i k f) (hs : Srt (flat fs)) (ht : isAt f.its key k = false) :
    ∀ b ∈ f.its.drop k ++ flat (fs.drop (i + 1)), ltK key b.key = true := by
  rcases Nat.lt_or_ge k f.its.length with hk | hk
  · obtain ⟨x, hx⟩ : ∃ x, f.its[k]? = some x := ⟨f.its[k], List.getElem?_eq_getElem hk⟩
    have e2 := (List.getElem?_eq_some_iff.1 hx).2
    have hxk : x.key ≠ key := fun e => by
      have := isAt_iff.2 ⟨x, hx, e⟩
      rw [ht] at this
      cases this
    have h1 := h.hi x (by rw [List.drop_eq_getElem_cons hk]; simp [e2])
    have hx2 : ltK key x.key = true := by
      rcases ltK_total key x.key with h2 | h2 | h2
      · exact h2
      · exact absurd h2.symm hxk
      · rw [h1] at h2; cases h2
    rw [h.split] at hs
    obtain ⟨_, s2, _⟩ := hs.append
    rw [List.drop_eq_getElem_cons hk, List.cons_append, e2] at s2 ⊢
    intro b hb
    rcases List.mem_cons.1 hb with rfl | hb
    · exact hx2
    · exact ltK_trans hx2 ((List.pairwise_cons.1 s2).1 b hb)
  · rw [List.drop_of_length_le hk, List.nil_append]
    exact h.last hk
end Go.Mb
