/-
  The law DiskFalls: the walk.
-/
import Derived.Test.YtfiigdgkgelbkaaDm1
namespace Go.Mb
open Go.RowKit
/-- so many 'x' -/
def xN (i : Nat) : ByteArray := ⟨Array.replicate i 120⟩
theorem xN_size (i : Nat) : (xN i).size = i := by simp [xN, ByteArray.size]
theorem xN_succ (i : Nat) : xN i ++ ⟨#[120]⟩ = xN (i + 1) := by
  apply ByteArray.ext
  rw [ByteArray.data_append]
  show Array.replicate i 120 ++ #[120] = _
  rw [show (#[120] : Array UInt8) = Array.replicate 1 120 from rfl, Array.replicate_append_replicate]
  rfl
theorem xN_all (i : Nat) : (xN i).extract 0 i = xN i := by
  have h := ByteArray.extract_zero_size (b := xN i)
  rw [xN_size] at h
  exact h
theorem xN_none (i : Nat) : (xN i).extract 0 0 = ⟨#[]⟩ := by
  apply bytes_inj
  simp
def fF : ByteArray := ⟨#[102]⟩
theorem nameBad_fF : nameBad fF = false := nameBad_f
def filesN (i : Nat) : List Fl := if i = 0 then [] else [⟨fF, xN i, 0⟩]
theorem filesN_len (i : Nat) : (filesN i).length ≤ 1 := by unfold filesN; split <;> simp
/-- the disk behind so many calls, where the power fails at the n-th -/
def fallD (n i : Nat) : Dk := if i ≤ n then ⟨1000, filesN i, false, (n : Int) - i⟩ else ⟨1000, filesN n, true, 0⟩
theorem fallD_step (n i : Nat) (hi : i ≤ 31) : (fallD n i).append fF ⟨#[120]⟩ = (if n ≤ i then 8 else 0, fallD n (i + 1)) := by
  unfold fallD
  rcases Nat.lt_trichotomy i n with h | h | h
  · rw [if_pos (show i ≤ n by omega), if_neg (show ¬ n ≤ i by omega), if_pos (show i + 1 ≤ n by omega)]
    rw [append_on (turn_left (by omega)) nameBad_fF (by
      show (1 : Int) ≤ 1000 - (sumF (filesN i) : Int)
      unfold filesN; split
      · simp [sumF]
      · rw [sum_one, xN_size]; omega)]
    congr 1
    have e : ((n : Int) - i - 1) = (n : Int) - ((i + 1 : Nat) : Int) := by omega
    rw [e]
    congr 1
    unfold filesN Dk.file
    split
    · rename_i h0
      subst h0
      rw [if_neg (by omega)]
      show putF [] ⟨fF, ⟨#[]⟩ ++ ⟨#[120]⟩, 0⟩ = _
      rw [empty_app, put_none]; rfl
    · rw [if_neg (by omega), look_one]
      simp only [Option.getD_some]
      rw [put_one, xN_succ]
  · subst h
    rw [if_pos (Nat.le_refl i), if_pos (Nat.le_refl i), if_neg (show ¬ i + 1 ≤ i by omega)]
    have ht : Dk.turn ⟨1000, filesN i, false, (i : Int) - i⟩ = (8, ⟨1000, filesN i, true, 0⟩) := by
      rw [Int.sub_self]
      rfl
    rw [append_off ht]
  · rw [if_neg (show ¬ i ≤ n by omega), if_pos (show n ≤ i by omega), if_neg (show ¬ i + 1 ≤ n by omega)]
    exact append_off rfl
theorem fallD_down (n i : Nat) : (fallD n (i + 1)).down = decide (n ≤ i) := by
  unfold fallD
  split
  · rw [decide_eq_false (by omega)]
  · rw [decide_eq_true (by omega)]
theorem fallD_fs (n i : Nat) : (fallD n i).fs = filesN (min n i) ∧ (fallD n i).room = 1000 := by
  unfold fallD
  split
  · exact ⟨by show filesN i = _; congr 1; omega, rfl⟩
  · exact ⟨by show filesN n = _; congr 1; omega, rfl⟩
theorem fallD_crash (n i : Nat) (keep : List Int) : (fallD n i).crash keep = ⟨1000, crashF (filesN (min n i)) keep, false, -1⟩ := by
  obtain ⟨h1, h2⟩ := fallD_fs n i
  unfold Dk.crash
  rw [h1, h2]
end Go.Mb
namespace Go.Proofs.Ytfiigdgkgelbkaa
open Go.RowKit Go.Mb Go.Maps

set_option maxHeartbeats 4000000 in
set_option maxRecDepth 100000 in
theorem falls_law (n0 many0 : Int) (w : World) : Calls Try.prog 3 #[.int .i64 n0, .int .i64 many0] w (fun e w' => e = .returned (.bool true) ∧ Below w.heap.size w w') := by
  have HHD := Lib.hid (head_any w)
  have hand1 : bits .and .i64 n0 31 = n0 % 32 := and_31 n0
  have hand2 : bits .and .i64 many0 31 = many0 % 32 := and_31 many0
  obtain ⟨n, hn⟩ : ∃ n : Nat, (n : Int) = n0 % 32 := ⟨(n0 % 32).toNat, by omega⟩
  obtain ⟨many, hm⟩ : ∃ n : Nat, (n : Int) = many0 % 32 := ⟨(many0 % 32).toNat, by omega⟩
  have hn31 : n ≤ 31 := by omega
  have hm31 : many ≤ 31 := by omega
  rw [← hn] at hand1
  rw [← hm] at hand2
  clear hn hm
  go_enter Try.func3, Try.ntmps3
  go_wp2_with fail
  refine (HHD.out).mono ?_
  rintro e w0 ⟨rfl, hb0⟩
  have HB0 := Lib.hid hb0
  have HNEW := Lib.hid (new_any 1000 10 w0)
  clear hb0
  go_wp2_with fail
  refine (HNEW.out).mono ?_
  rintro e w1 ⟨S, m, rfl, h1, hS, hm, hb1⟩
  rw [show Dk.made 1000 = ⟨1000, [], false, -1⟩ from rfl] at h1
  have hs0 := HB0.out.size
  have u1 : ∀ (x y : World), Tur [S, m] x y → w.heap.size ≤ x.heap.size → Below w.heap.size x y := fun _ _ h hs => h.below (by simp; omega) hs
  have UB := Lib.hid u1
  have HB1 := Lib.hid (HB0.out.trans (hb1.mono hs0))
  have HFA := Lib.hid (falls_any S m 10 _ n w1 h1 (by omega))
  clear h1 hb1 u1
  go_wp2_with fail
  refine (HFA.out).mono ?_
  rintro e w2 ⟨rfl, h2, t2⟩
  have e2 : Dk.falls ⟨1000, [], false, -1⟩ (n : Int) = fallD n 0 := by
    unfold fallD Dk.falls filesN
    rw [if_pos (Nat.zero_le _), if_pos rfl]
    simp
  rw [e2] at h2
  have HB2 := Lib.hid (HB1.out.trans (UB.out _ _ t2 HB1.out.size))
  have H2 := Lib.hid h2
  clear h2 t2 e2
  go_wp2_with fail
  go_loopw [6, 7] (fun i _ wr => ∃ k : Nat, i = .int .i64 k ∧ k ≤ many ∧ Hid (DkAt Try.prog 63 wr S m (fallD n k) 10) ∧ Hid (Below w.heap.size w wr)) (fun i _ _ => many - (intOf i).toNat)
  case atStart => exact ⟨0, rfl, Nat.zero_le _, H2.out, HB2.out⟩
  case round =>
    obtain ⟨k, rfl, hk, hd, hb⟩ := hrel
    by_cases hlt : k < many
    · have hstep := fallD_step n k (by omega)
      have hdn := fallD_down n k
      by_cases hnk : n ≤ k
      · rw [if_pos hnk] at hstep
        rw [decide_eq_true hnk] at hdn
        have HA := Lib.hid (append_eq S m 10 _ _ _ _ _ wr hd.out (by decide) (small _ (by decide)) (small _ (by decide)) hstep)
        have HDN := Lib.hid hdn
        have hge : ¬ (k : Int) < (n : Int) := by omega
        clear hstep hdn hnk
        go_wp2_with fail
        refine (HA.out).mono ?_
        rintro e w3 ⟨rfl, h3, t3⟩
        have hdo := down_any S m _ _ w3 h3
        rw [HDN.out] at hdo
        have HD := Lib.hid hdo
        have H3 := Lib.hid (h3.tight (N' := 10) (by rw [(fallD_fs n (k + 1)).1]; have := filesN_len (min n (k + 1)); omega))
        have HB3 := Lib.hid (hb.out.trans (UB.out _ _ t3 hb.out.size))
        clear h3 t3 hdo
        go_wp2_with (go_at_call 14; refine (HD.out).mono ?_; rintro e w4 ⟨rfl, hw4⟩; subst w4)
        go_roundw
        case rel => exact ⟨k + 1, by go_num, by omega, H3.out, HB3.out⟩
        case measure => simp [intOf]; omega
      · rw [if_neg hnk] at hstep
        rw [decide_eq_false hnk] at hdn
        have HA := Lib.hid (append_eq S m 10 _ _ _ _ _ wr hd.out (by decide) (small _ (by decide)) (small _ (by decide)) hstep)
        have HDN := Lib.hid hdn
        have hge : (k : Int) < (n : Int) := by omega
        clear hstep hdn hnk
        go_wp2_with fail
        refine (HA.out).mono ?_
        rintro e w3 ⟨rfl, h3, t3⟩
        have hdo := down_any S m _ _ w3 h3
        rw [HDN.out] at hdo
        have HD := Lib.hid hdo
        have H3 := Lib.hid (h3.tight (N' := 10) (by rw [(fallD_fs n (k + 1)).1]; have := filesN_len (min n (k + 1)); omega))
        have HB3 := Lib.hid (hb.out.trans (UB.out _ _ t3 hb.out.size))
        clear h3 t3 hdo
        go_wp2_with (go_at_call 14; refine (HD.out).mono ?_; rintro e w4 ⟨rfl, hw4⟩; subst w4)
        go_roundw
        case rel => exact ⟨k + 1, by go_num, by omega, H3.out, HB3.out⟩
        case measure => simp [intOf]; omega
    · obtain rfl : k = many := by omega
      obtain ⟨q, hq⟩ : ∃ q : Nat, min n k = q := ⟨_, rfl⟩
      have hqq : min (n : Int) k = q := by omega
      have hq31 : q ≤ 31 := by omega
      have ec := fallD_crash n k [1000]
      have ec2 := fallD_crash n k []
      rw [hq] at ec ec2
      rcases Nat.eq_zero_or_pos q with h0 | h0
      · subst h0
        have er : Dk.read ⟨1000, crashF (filesN 0) [1000], false, -1⟩ fF = (⟨#[]⟩, 5) := rfl
        have HC := Lib.hid (crash_eq S m 10 _ _ _ 1 1 [1000] _ (hd.out.below ((Below.refl _ _).alloc (Nat.le_refl _) _)) (by decide) (rdN_new wr 1000 3) ec)
        have ER := Lib.hid er
        have hq0 : min (n : Int) k = 0 := hqq
        clear ec ec2 er hq hqq
        go_wp2_with fail
        refine (HC.out).mono ?_
        rintro e w3 ⟨S', m', rfl, h3, hS', hm', hb3⟩
        have HB3 := Lib.hid (hb.out.trans ((((Below.refl _ wr).alloc (Nat.le_refl _) (.cells #[.int .i64 1000] 3)).trans (hb3.mono (by simp))).mono hb.out.size))
        have H3 := Lib.hid h3
        clear h3 hb3
        go_wp2_with fail
        refine (read_eq S' m' 10 _ _ fF _ w3 H3.out (small _ (by decide)) ER.out).mono ?_
        rintro e w4 ⟨rfl, h4⟩
        have HB4 := Lib.hid (HB3.out.trans (h4.mono HB3.out.size))
        clear h4
        go_wp2_with fail
        all_goals go_ret
        all_goals exact ⟨rfl, HB4.out⟩
      · have ef : filesN q = [⟨fF, xN q, 0⟩] := by unfold filesN; rw [if_neg (by omega)]
        have k1 : keptN ⟨fF, xN q, 0⟩ [1000] 0 = q := by
          show 0 + min (max 1000 0) (((xN q).size : Int) - 0) = q
          rw [xN_size]; omega
        have e1 : crashF (filesN q) [1000] = [⟨fF, xN q, q⟩] := by
          rw [ef]
          show [keptF _ _ 0] = _
          unfold keptF
          rw [k1]
          simp [xN_all]
        have e2 : crashF (filesN q) [] = [⟨fF, ⟨#[]⟩, 0⟩] := by
          rw [ef]
          show [keptF _ _ 0] = _
          rw [keptF_nil]
          have := xN_none q
          simp only [Int.toNat_zero, this]
        rw [e1] at ec
        rw [e2] at ec2
        have HC := Lib.hid (crash_eq S m 10 _ _ _ 1 1 [1000] _ (hd.out.below ((Below.refl _ _).alloc (Nat.le_refl _) _)) (by decide) (rdN_new wr 1000 3) ec)
        have EC2 := Lib.hid ec2
        have ER := Lib.hid (read_one (r := 1000) (fall := -1) (k := fF) (a := xN q) (n := q))
        have ER2 := Lib.hid (read_one (r := 1000) (fall := -1) (k := fF) (a := ⟨#[]⟩) (n := 0))
        have hxs := xN_size q
        clear ec ec2 hq ef k1 e1 e2
        go_wp2_with fail
        refine (HC.out).mono ?_
        rintro e w3 ⟨S', m', rfl, h3, hS', hm', hb3⟩
        have hbx := ((Below.refl _ wr).alloc (Nat.le_refl _) (.cells #[.int .i64 1000] 3)).trans (hb3.mono (by simp))
        have HB3 := Lib.hid (hb.out.trans (hbx.mono hb.out.size))
        have H3 := Lib.hid h3
        have HD3 := Lib.hid (hd.out.below hbx)
        clear h3 hb3 hbx
        go_wp2_with fail
        refine (read_eq S' m' 10 _ _ fF _ w3 H3.out (small _ (by decide)) ER.out).mono ?_
        rintro e w4 ⟨rfl, h4⟩
        have HB4 := Lib.hid (HB3.out.trans (h4.mono HB3.out.size))
        have HD4 := Lib.hid (HD3.out.below h4)
        clear h4
        have hq1 : ((q : Int) == 0) = false := by simp; omega
        go_wp2_with fail
        refine (crash_eq S m 10 _ _ none 0 0 [] w4 HD4.out (by decide) (rdN_nil _ _) EC2.out).mono ?_
        rintro e w5 ⟨S2, m2, rfl, h5, hS2, hm2, hb5⟩
        have HB5 := Lib.hid (HB4.out.trans (hb5.mono HB4.out.size))
        have H5 := Lib.hid h5
        clear h5 hb5
        go_wp2_with fail
        refine (read_eq S2 m2 10 _ _ fF _ w5 H5.out (small _ (by decide)) ER2.out).mono ?_
        rintro e w6 ⟨rfl, h6⟩
        have HB6 := Lib.hid (HB5.out.trans (h6.mono HB5.out.size))
        clear h6
        go_wp2_with fail
        all_goals go_ret
        all_goals exact ⟨rfl, HB6.out⟩
end Go.Proofs.Ytfiigdgkgelbkaa
