/-
  (*Store).Commit
-/
import Derived.Test.YtkgggioldpnfaaaSto3
namespace Go.Mb
open Go.RowKit Go.Proofs.Ytkgggioldpnfaaa
section
variable {P : Program} {w : World}
theorem step_append_own {ops : Array Oper} {o : Oper} {a : Act} {K : Act → World → Prop} {Q : Exit → Act → World → Prop} {E : Prop}
    (hg : o.guard = none) (s x : Operand) (t : TypeId) (hop : o.op = Op.call { callee := Callee.builtin Builtin.append, args := #[s, x], argTypes := #[t, t] })
    (base : Nat) (e : TypeId) (i : TypeInfo) (z : Value) (size bytes : Nat) (ht : P.underlying t = some (.slice e)) (hi : P.info? e = some i) (hz : i.zero = some z)
    (hsize : i.size = size) (hby : i.bytes = bytes) (hzs : z.cells.size = size) (hsz : 0 < size)
    (v : Value) (n : Nat) (xs : List Value) (hs : a.eval s = v) (hown : w.ownsRow base e size v n xs)
    (ad : Addr) (m c : Nat) (news : List Value) (hx : a.eval x = .slice (some ad) m c) (hl : news.length = m * size) (hnews : ∀ j u, news[j]? = some u → w.cell? (ad.add j) = some u) (h1 : ∀ u ∈ news, u.oneCell' = true)
    (h63 : n + m ≤ maxLen) (hbytes : (n + m) * bytes ≤ 140737488355328) (hbase : base ≤ w.heap.size)
    (hK : ∀ v' w', w'.ownsRow base e size v' (n + m) (xs ++ news) → w.grownBy w' v.ownBlock → K (a.put o.dst v') w') :
    if Region.wanted o (yielded ops a.tmps) = true then Oper.wp P o a w K Q else E := by
  have hw : Region.wanted o (yielded ops a.tmps) = true := by simp [Region.wanted, hg]
  rw [if_pos hw]
  obtain ⟨v', w', hrun, r1, r2, _⟩ := run_append_own (P := P) w base t o.type e i z size bytes ht hi hz hsize hby hzs hsz v n xs hown ad m c news hl hnews h1 h63 hbytes hbase
  unfold Oper.wp
  simp [execOp, hop, resolve, invoke, builtin, hs, hx, hrun, Result.andThen]
  exact hK v' w' r1 r2
end
def lastOk (hist : List Com) (tm : Int) : Bool := match hist.getLast? with | none => true | some c => decide (c.tm ≤ tm)
def comB (low : Int) (hist : List Com) (sq tm : Int) (l : List Wr) : Bool := decide (sq = low + hist.length + 1) && decide (sq ≤ 1099511627776) && atB tm && rightB l && lastOk hist tm
def ComSt (base S : Nat) (low : Int) (hist : List Com) (its : List It) (N : Nat) (sq tm : Int) (l : List Wr) (w : World) (e : Ending) (w' : World) : Prop :=
  if comB low hist sq tm l then ∃ c its', e = .returned (.int .i64 0) ∧ c.seq = sq ∧ c.tm = tm ∧ c.ws = l ∧ StoreAt base S w' low (hist ++ [c]) its' (N + 200) ∧ its'.map It.ab = stepC sq (its.map It.ab) l ∧ Chg base [87, 125, 124, 28] w w'
  else e = .returned (.int .i64 1) ∧ Below w.heap.size w w'
theorem ComSt.no {base S : Nat} {low : Int} {hist : List Com} {its : List It} {N : Nat} {sq tm : Int} {l : List Wr} {w : World} {e : Ending} {w' : World} (h : comB low hist sq tm l = false) (h1 : e = .returned (.int .i64 1)) (h2 : Below w.heap.size w w') : ComSt base S low hist its N sq tm l w e w' := by
  unfold ComSt; rw [h]; exact ⟨h1, h2⟩
end Go.Mb
namespace Go.Proofs.Ytkgggioldpnfaaa
open Go.RowKit Go.Mb

set_option maxHeartbeats 2000000 in
set_option maxRecDepth 100000 in
theorem com_bad (B : Nat) (base S : Nat) (low : Int) (hist : List Com) (its : List It) (N : Nat) (sq tm : Int) (ao : Option Addr) (n cap : Nat) (l : List Wr) (w : World) (hst : StoreAt base S w low hist its N) (hN : N ≤ 900000)
    (h : RdW B w ao n cap l) (hB : B ≤ w.heap.size) (hbad : (decide (sq = low + hist.length + 1) && decide (sq ≤ 1099511627776) && atB tm) = false) :
    Calls Try.prog 25 #[.pointer (some ⟨S, 0, none⟩), .agg #[.int .i64 sq, .int .i64 tm, .slice ao n cap]] w (ComSt base S low hist its N sq tm l w) := by
  have HR : Hid (comB low hist sq tm l = false) := by show comB low hist sq tm l = false; unfold comB; rw [hbad]; rfl
  obtain ⟨W0, hW0⟩ : ∃ W, W = w.alloc (Obj.cells #[.int .i64 sq, .int .i64 tm, .slice ao n cap] 28) := ⟨_, rfl⟩
  obtain ⟨g, hg⟩ : ∃ g, g = w.heap.size := ⟨_, rfl⟩
  have hblk : Blk W0 g 28 #[.int .i64 sq, .int .i64 tm, .slice ao n cap] := by rw [hW0, hg]; exact Blk.new _ _ _
  have hb0 : Below w.heap.size w W0 := by rw [hW0]; exact (Below.refl _ _).alloc (Nat.le_refl _) _
  have c0 : W0.cell? ⟨g, 0, none⟩ = some (.int .i64 sq) := hblk.cell 0
  have c1 : W0.cell? ⟨g, 1, none⟩ = some (.int .i64 tm) := hblk.cell 1
  have c2 : W0.cell? ⟨g, 2, none⟩ = some (.slice ao n cap) := hblk.cell 2
  have hlow : 0 ≤ low ∧ low ≤ 1099511627776 ∧ hist.length ≤ N := by obtain ⟨_, _, _, _, _, h⟩ := hst; exact ⟨h.low0.1, h.low0.2, h.few.2.1⟩
  have hw1 : IntKind.i64.wrap (low + (hist.length : Int) + 1) = low + hist.length + 1 := by rw [IntKind.wrap_i64]; omega
  have HST : Hid (StoreAt base S W0 low hist its N) := hst.below hb0
  have HB0 := Lib.hid hb0
  have HW := Lib.hid hW0
  have HGG := Lib.hid hg
  have hbelow : ∀ q, Below w.heap.size w (W0.drewN q) := fun q => hb0.trans ⟨rfl, rfl, rfl, Nat.le_refl _, fun _ _ => rfl⟩
  have HBQ := Lib.hid hbelow
  clear hst hblk hW0 hg h hb0 hbelow
  simp only [atB, Bool.and_eq_false_iff, decide_eq_false_iff_not] at hbad
  by_cases e1 : sq = low + hist.length + 1
  · have d1 : (sq != low + (hist.length : Int) + 1) = false := by simpa using e1
    replace hbad : ¬ (sq ≤ 1099511627776) ∨ (¬ (0 ≤ tm) ∨ ¬ (tm ≤ 1099511627776)) := by
      rcases hbad with (h | h) | h
      · exact absurd e1 h
      · exact .inl h
      · exact .inr h
    clear e1
    by_cases e2 : sq ≤ 1099511627776
    · have d2 : decide (1099511627776 < sq) = false := by simpa using e2
      by_cases e3 : 0 ≤ tm
      · have d3 : decide (tm < 0) = false := by simpa using e3
        have e4 : 1099511627776 < tm := by
          rcases hbad with h | h | h
          · exact absurd e2 h
          · exact absurd e3 h
          · omega
        clear hbad
        go_enter Try.func25, Try.ntmps25
        go_wp2_with fail
        rw [← HW.out, ← HGG.out]
        go_quiet ((go_at_call 26; exact Calls.quiet_of (stLast_any base S low hist its N _ (HST.out.chg (Chg.drewN 0 [] _ _) (by decide) (by decide) (by decide) (by decide) (by decide) (by decide)) (by omega))))
        go_wp2_with fail
        go_ret
        exact ComSt.no HR.out rfl (HBQ.out _)
      · have e4 : tm < 0 := by omega
        clear hbad e3
        go_enter Try.func25, Try.ntmps25
        go_wp2_with fail
        rw [← HW.out, ← HGG.out]
        go_quiet ((go_at_call 26; exact Calls.quiet_of (stLast_any base S low hist its N _ (HST.out.chg (Chg.drewN 0 [] _ _) (by decide) (by decide) (by decide) (by decide) (by decide) (by decide)) (by omega))))
        go_wp2_with fail
        go_ret
        exact ComSt.no HR.out rfl (HBQ.out _)
    · have e4 : 1099511627776 < sq := by omega
      clear hbad e2
      go_enter Try.func25, Try.ntmps25
      go_wp2_with fail
      rw [← HW.out, ← HGG.out]
      go_quiet ((go_at_call 26; exact Calls.quiet_of (stLast_any base S low hist its N _ (HST.out.chg (Chg.drewN 0 [] _ _) (by decide) (by decide) (by decide) (by decide) (by decide) (by decide)) (by omega))))
      go_wp2_with fail
      go_ret
      exact ComSt.no HR.out rfl (HBQ.out _)
  · have d1 : (sq == low + (hist.length : Int) + 1) = false := by simpa using e1
    go_enter Try.func25, Try.ntmps25
    go_wp2_with fail
    rw [← HW.out, ← HGG.out]
    go_quiet ((go_at_call 26; exact Calls.quiet_of (stLast_any base S low hist its N _ (HST.out.chg (Chg.drewN 0 [] _ _) (by decide) (by decide) (by decide) (by decide) (by decide) (by decide)) (by omega))))
    go_wp2_with fail
    go_ret
    exact ComSt.no HR.out rfl (HBQ.out _)

end Go.Proofs.Ytkgggioldpnfaaa
