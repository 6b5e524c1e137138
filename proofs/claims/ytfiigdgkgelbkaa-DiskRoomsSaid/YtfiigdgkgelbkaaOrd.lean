/-
  The order of keys: bytes, one by one.
-/
import Derived.Lib.Strings
import Derived.Lib.Bytealg
namespace Go.Mb

theorem bl_irrefl : ∀ l : List UInt8, Op.bytesLess l l = false
  | [] => rfl
  | a :: l => by simp [Op.bytesLess, bl_irrefl l]
theorem bl_trans : ∀ a b c : List UInt8, Op.bytesLess a b = true → Op.bytesLess b c = true → Op.bytesLess a c = true
  | _, [], _, h, _ => by simp [Op.bytesLess] at h
  | _, _ :: _, [], _, h => by simp [Op.bytesLess] at h
  | [], _ :: _, _ :: _, _, _ => by simp [Op.bytesLess]
  | x :: a, y :: b, z :: c, h1, h2 => by
    simp only [Op.bytesLess, Bool.or_eq_true, Bool.and_eq_true, beq_iff_eq, decide_eq_true_eq] at h1 h2 ⊢
    rcases h1 with h1 | ⟨rfl, h1⟩
    · rcases h2 with h2 | ⟨rfl, h2⟩
      · exact .inl (UInt8.lt_trans h1 h2)
      · exact .inl h1
    · rcases h2 with h2 | ⟨rfl, h2⟩
      · exact .inl h2
      · exact .inr ⟨rfl, bl_trans a b c h1 h2⟩
theorem bl_total : ∀ a b : List UInt8, Op.bytesLess a b = true ∨ a = b ∨ Op.bytesLess b a = true
  | [], [] => .inr (.inl rfl)
  | [], _ :: _ => .inl (by simp [Op.bytesLess])
  | _ :: _, [] => .inr (.inr (by simp [Op.bytesLess]))
  | x :: a, y :: b => by
    simp only [Op.bytesLess, Bool.or_eq_true, Bool.and_eq_true, beq_iff_eq, decide_eq_true_eq]
    have tri : x < y ∨ x = y ∨ y < x := by
      rcases Nat.lt_trichotomy x.toNat y.toNat with h | h | h
      · exact .inl (UInt8.lt_iff_toNat_lt.2 h)
      · exact .inr (.inl (UInt8.toNat_inj.1 h))
      · exact .inr (.inr (UInt8.lt_iff_toNat_lt.2 h))
    rcases tri with h | rfl | h
    · exact .inl (.inl h)
    · rcases bl_total a b with h | rfl | h
      · exact .inl (.inr ⟨rfl, h⟩)
      · exact .inr (.inl rfl)
      · exact .inr (.inr (.inr ⟨rfl, h⟩))
    · exact .inr (.inr (.inl h))
theorem cb_neg : ∀ a b : List UInt8, Lib.compareBytes a b < 0 ↔ Op.bytesLess a b = true
  | [], [] => by simp [Lib.compareBytes, Op.bytesLess]
  | [], _ :: _ => by simp [Lib.compareBytes, Op.bytesLess]
  | _ :: _, [] => by simp [Lib.compareBytes, Op.bytesLess]
  | x :: a, y :: b => by
    have ih := cb_neg a b
    unfold Lib.compareBytes Op.bytesLess
    by_cases h1 : x < y
    · simp [h1]
    · by_cases h2 : y < x
      · have hne : ¬ x = y := by rintro rfl; exact h1 h2
        simp [h1, h2, hne]
      · have he : x = y := UInt8.toNat_inj.1 (by rw [UInt8.lt_iff_toNat_lt] at h1 h2; omega)
        subst he
        simp [h1, ih]
theorem cb_zero : ∀ a b : List UInt8, Lib.compareBytes a b = 0 ↔ a = b
  | [], [] => by simp [Lib.compareBytes]
  | [], _ :: _ => by simp [Lib.compareBytes]
  | _ :: _, [] => by simp [Lib.compareBytes]
  | x :: a, y :: b => by
    have ih := cb_zero a b
    unfold Lib.compareBytes
    by_cases h1 : x < y
    · have hne : ¬ x = y := by rintro rfl; exact UInt8.lt_irrefl _ h1
      simp [h1, hne]
    · by_cases h2 : y < x
      · have hne : ¬ x = y := by rintro rfl; exact h1 h2
        simp [h1, h2, hne]
      · have he : x = y := UInt8.toNat_inj.1 (by rw [UInt8.lt_iff_toNat_lt] at h1 h2; omega)
        subst he
        simp [h1, ih]

/-- is one key less than the other? -/
def ltK (a b : ByteArray) : Bool := Op.bytesLess a.toList b.toList
/-- strings.Compare -/
def cmpK (a b : ByteArray) : Int := Lib.compareBytes a.data.toList b.data.toList
theorem ltK_irrefl (a : ByteArray) : ltK a a = false := bl_irrefl _
theorem ltK_trans {a b c : ByteArray} (h : ltK a b = true) (k : ltK b c = true) : ltK a c = true := bl_trans _ _ _ h k
theorem toList_inj {a b : ByteArray} (h : a.toList = b.toList) : a = b := by
  rw [Lib.toList_data, Lib.toList_data] at h
  cases a; cases b
  congr 1
  exact Array.ext' h
theorem ltK_total (a b : ByteArray) : ltK a b = true ∨ a = b ∨ ltK b a = true := by
  rcases bl_total a.toList b.toList with h | h | h
  · exact .inl h
  · exact .inr (.inl (toList_inj h))
  · exact .inr (.inr h)
theorem cmpK_neg (a b : ByteArray) : cmpK a b < 0 ↔ ltK a b = true := by unfold cmpK ltK; rw [cb_neg, Lib.toList_data, Lib.toList_data]
theorem cmpK_zero (a b : ByteArray) : cmpK a b = 0 ↔ a = b := by
  unfold cmpK
  rw [cb_zero]
  constructor
  · intro h; exact toList_inj (by rw [Lib.toList_data, Lib.toList_data]; exact h)
  · rintro rfl; rfl
theorem ltK_asymm {a b : ByteArray} (h : ltK a b = true) : ltK b a = false := by
  rw [Bool.eq_false_iff]
  intro k
  have := ltK_trans h k
  rw [ltK_irrefl] at this
  cases this
/-- '>' as the walk writes it -/
theorem gtr_raw (a b : ByteArray) : (!(Op.bytesLess a.toList b.toList || a.toList == b.toList)) = ltK b a := by
  rcases ltK_total a b with h | rfl | h
  · have h1 := ltK_asymm h
    unfold ltK at h h1 ⊢
    simp [h, h1]
  · unfold ltK; simp [bl_irrefl]
  · have h1 := ltK_asymm h
    have hne : (a.toList == b.toList) = false := by
      rw [beq_eq_false_iff_ne]
      intro e
      have := toList_inj e
      subst this
      rw [ltK_irrefl] at h
      cases h
    unfold ltK at h h1 ⊢
    simp [h, h1, hne]
end Go.Mb
