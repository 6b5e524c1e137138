/-
  octet.Num, Text, Flag: what they append.
-/
import Derived.Test.YtkgggioldpnfaaaChecked
import Derived.Test.YtkgggioldpnfaaaBase
namespace Go.Proofs.Ytkgggioldpnfaaa
open Go.RowKit Go.Mb

theorem Try.info5 : (Try.prog.info? 5).map (fun i => (i.zero, i.size, i.bytes)) = some (some (.int .u8 0), 1, 1) := by kernel_rfl

/-- a byte as a cell -/
def bc (n : Nat) : Value := .int .u8 (n : Int)

/-- what an append onto an owned row of bytes hands back -/
def Grew (B : Nat) (n : Nat) (xs : List Value) (w : World) (e : Ending) (w' : World) : Prop :=
  ∃ v', e = .returned v' ∧ w'.ownsRow B 5 1 v' n xs ∧ Chg B [5] w w'

def nsize (n : Nat) : Nat := if h : n = 0 then 0 else nsize (n / 256) + 1
termination_by n
decreasing_by omega
theorem nsize_zero : nsize 0 = 0 := by unfold nsize; simp
theorem nsize_pos {n : Nat} (h : n ≠ 0) : nsize n = nsize (n / 256) + 1 := by rw [nsize]; simp [h]
theorem nsize_le : ∀ (k n : Nat), n < 256 ^ k → nsize n ≤ k
  | 0, n, h => by have : n = 0 := by simpa using h
                  subst this; simp [nsize_zero]
  | k + 1, n, h => by
    by_cases h0 : n = 0
    · subst h0; simp [nsize_zero]
    · rw [nsize_pos h0]
      have := nsize_le k (n / 256) (by rw [Nat.pow_succ] at h; omega)
      omega
theorem nsize_le8 (n : Nat) (h : n ≤ 9223372036854775807) : nsize n ≤ 8 := nsize_le 8 n (by have : 256 ^ 8 = 18446744073709551616 := by decide
                                                                                            omega)
/-- the first k bytes of a number, the highest first -/
def numTo (x k : Nat) : List Value := (List.range k).map fun j => bc (x / 2 ^ (8 * (nsize x - 1 - j)) % 256)
theorem numTo_succ (x k : Nat) : numTo x (k + 1) = numTo x k ++ [bc (x / 2 ^ (8 * (nsize x - 1 - k)) % 256)] := by simp [numTo, List.range_succ]
def numC (x : Nat) : List Value := bc (nsize x) :: numTo x (nsize x)

set_option maxHeartbeats 400000 in
set_option maxRecDepth 100000 in
theorem flag_any (B : Nat) (v : Value) (n : Nat) (xs : List Value) (yes : Bool) (w : World) (hown : w.ownsRow B 5 1 v n xs) (hB : B ≤ w.heap.size) (hn : n ≤ 1000000000) :
    Calls Try.prog 54 #[v, .bool yes] w (Grew B (n + 1) (xs ++ [bc (if yes then 1 else 0)]) w) := by
  cases yes
  all_goals
    go_enter Try.func54, Try.ntmps54
    go_wp2_with (at_builtin; refine wpList_app_one _ rfl _ _ 61 rfl B 5 (.int .u8 0) 1 1 Try.underlying61 Try.info5 rfl (by decide) v n xs rfl hown [_] rfl rfl (by simp [Value.oneCell']) (by unfold maxLen; omega) (by omega) hB ?_; intro v' w' h1 h2)
    go_ret
    exact ⟨_, rfl, h1, own_grown hown h2 (Nat.le_refl _) (by simp)⟩

set_option maxHeartbeats 400000 in
set_option maxRecDepth 100000 in
theorem num_any (B : Nat) (v : Value) (n : Nat) (xs : List Value) (x : Nat) (w : World) (hown : w.ownsRow B 5 1 v n xs) (hB : B ≤ w.heap.size) (hn : n ≤ 1000000000) (hx : x ≤ 9223372036854775807) :
    Calls Try.prog 32 #[v, .int .i64 x] w (Grew B (n + (1 + nsize x)) (xs ++ numC x) w) := by
  have h8 := nsize_le8 x hx
  go_enter Try.func32, Try.ntmps32
  go_wp2_with fail
  go_loop [6, 7] (fun s y => ∃ k z : Nat, s = .int .i64 k ∧ y = .int .u64 z ∧ k + nsize z = nsize x ∧ z ≤ x) (fun _ y => (intOf y).toNat)
  case atStart => exact ⟨0, x, rfl, rfl, by omega, Nat.le_refl _⟩
  case round =>
    obtain ⟨k, z, rfl, rfl, hk, hz⟩ := hrel
    by_cases h0 : z = 0
    · subst h0
      rw [nsize_zero] at hk
      obtain rfl : k = nsize x := by omega
      clear hk hz
      go_wp2_with (at_builtin; refine wpList_app_one _ rfl _ _ 61 rfl B 5 (.int .u8 0) 1 1 Try.underlying61 Try.info5 rfl (by decide) v n xs rfl hown [_] rfl rfl (by simp [Value.oneCell']) (by unfold maxLen; omega) (by omega) hB ?_; intro v' w' h1 h2)
      have hc1 := own_grown (B := B) (ts := [5]) hown h2 (Nat.le_refl _) (by simp)
      have HC := Lib.hid hc1
      clear hc1 h2
      go_loopw [0, 25] (fun b i wr => ∃ k : Nat, i = .int .i64 k ∧ k ≤ nsize x ∧ wr.ownsRow B 5 1 b (n + 1 + k) (xs ++ bc (nsize x) :: numTo x k) ∧ Hid (Chg B [5] w wr)) (fun _ i _ => nsize x - (intOf i).toNat)
      case atStart => exact ⟨0, rfl, Nat.zero_le _, by simpa [numTo, bc] using h1, HC.out⟩
      case round =>
        obtain ⟨k, rfl, hk, ho, hh⟩ := hrel
        by_cases hlt : k < nsize x
        · have hs := HC.out.size
          have hs2 := hh.out.size
          go_wp2_with (at_builtin; refine wpList_app_one _ rfl _ _ 61 rfl B 5 (.int .u8 0) 1 1 Try.underlying61 Try.info5 rfl (by decide) _ _ _ rfl ho [_] rfl rfl (by simp [Value.oneCell']) (by unfold maxLen; omega) (by omega) (by omega) ?_; intro v2 w2 h3 h4)
          go_roundw
          case rel => exact ⟨k + 1, by go_num, by omega, by simpa [numTo_succ, bc, Nat.add_assoc] using h3, hh.out.trans (own_grown ho h4 (Nat.le_refl _) (by simp))⟩
          case measure => simp [intOf]; omega
        · obtain rfl : k = nsize x := by omega
          go_wp2_with fail
          go_ret
          exact ⟨_, rfl, by simpa [numC, Nat.add_assoc] using ho, hh.out⟩
    · go_wp2_with fail
      go_round
      case rel => exact ⟨k + 1, z / 256, by go_num, by go_num, by rw [nsize_pos h0] at hk; omega, by omega⟩
      case measure => simp [intOf]; omega

def textC (s : ByteArray) : List Value := numC s.size ++ Lib.strCells s
theorem numTo_length (x k : Nat) : (numTo x k).length = k := by simp [numTo]
theorem numC_length (x : Nat) : (numC x).length = 1 + nsize x := by simp [numC, numTo_length]; omega
theorem textC_length (s : ByteArray) : (textC s).length = 1 + nsize s.size + s.size := by simp [textC, numC_length, Lib.strCells_length]

set_option maxHeartbeats 400000 in
set_option maxRecDepth 100000 in
theorem text_any (B : Nat) (v : Value) (n : Nat) (xs : List Value) (s : ByteArray) (w : World) (hown : w.ownsRow B 5 1 v n xs) (hB : B ≤ w.heap.size) (hn : n ≤ 1000000000) (hx : s.size ≤ 1000000000) :
    Calls Try.prog 53 #[v, .string s] w (Grew B (n + (textC s).length) (xs ++ textC s) w) := by
  have h8 := nsize_le8 s.size (by omega)
  go_enter Try.func53, Try.ntmps53
  go_wp2_with fail
  refine (num_any B v n xs s.size _ hown hB hn (by omega)).mono ?_
  rintro e w1 ⟨v1, rfl, h1, hc1⟩
  have HC := Lib.hid hc1
  clear hc1
  have hs := HC.out.size
  go_wp2_with (at_builtin; refine wpList_app_str _ rfl _ _ 61 9 rfl B 5 Try.underlying61 Try.underlying9 Try.info5 _ _ _ rfl h1 s rfl (by unfold maxLen; omega) (by omega) (by omega) ?_; intro v2 w2 h3 h4)
  go_ret
  refine ⟨v2, rfl, ?_, HC.out.trans (own_grown h1 h4 (Nat.le_refl _) (by simp))⟩
  rw [textC_length, show n + (1 + nsize s.size + s.size) = n + (1 + nsize s.size) + s.size by omega]
  simpa [textC] using h3

/-- the value v owns the bytes xs -/
def BOwn (B : Nat) (v : Value) (xs : List Value) (w : World) : Prop := w.ownsRow B 5 1 v xs.length xs
def Grown5 (B : Nat) (xs : List Value) (w : World) (e : Ending) (w' : World) : Prop :=
  ∃ v', e = .returned v' ∧ BOwn B v' xs w' ∧ Chg B [5] w w'
theorem flag_b (B : Nat) (v : Value) (xs : List Value) (yes : Bool) (w : World) (hown : BOwn B v xs w) (hB : B ≤ w.heap.size) (hn : xs.length ≤ 1000000000) :
    Calls Try.prog 54 #[v, .bool yes] w (Grown5 B (xs ++ [bc (if yes then 1 else 0)]) w) :=
  (flag_any B v _ xs yes w hown hB hn).mono fun e w' ⟨v', he, ho, hc⟩ => ⟨v', he, by unfold BOwn; simpa using ho, hc⟩
theorem num_b (B : Nat) (v : Value) (xs : List Value) (x : Int) (w : World) (hown : BOwn B v xs w) (hB : B ≤ w.heap.size) (hn : xs.length ≤ 1000000000) (h0 : 0 ≤ x) (hx : x ≤ 9223372036854775807) :
    Calls Try.prog 32 #[v, .int .i64 x] w (Grown5 B (xs ++ numC x.toNat) w) := by
  obtain ⟨n, rfl⟩ := Int.eq_ofNat_of_zero_le h0
  exact (num_any B v _ xs n w hown hB hn (by omega)).mono fun e w' ⟨v', he, ho, hc⟩ => ⟨v', he, by
    unfold BOwn
    rw [List.length_append, Int.toNat_natCast, numC_length]
    exact ho, hc⟩
theorem text_b (B : Nat) (v : Value) (xs : List Value) (s : ByteArray) (w : World) (hown : BOwn B v xs w) (hB : B ≤ w.heap.size) (hn : xs.length ≤ 1000000000) (hs : s.size ≤ 1000000000) :
    Calls Try.prog 53 #[v, .string s] w (Grown5 B (xs ++ textC s) w) :=
  (text_any B v _ xs s w hown hB hn hs).mono fun e w' ⟨v', he, ho, hc⟩ => ⟨v', he, by unfold BOwn; simpa using ho, hc⟩

end Go.Proofs.Ytkgggioldpnfaaa
