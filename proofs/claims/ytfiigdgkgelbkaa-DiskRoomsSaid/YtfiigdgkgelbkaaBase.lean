/-
  Words for worlds: 'Chg B ts w w'': from w to w' only blocks from B on whose cells are of a type in ts may have turned; laws for append at an owned row.
-/
import Derived.WalkKit
import Derived.WalkSpells
import Derived.WalkLawsBesides
import Derived.Lib.Hide
import Derived.Lib.AppendStr
import Derived.Maps.AppendAt
namespace Go.Mb
open Go.RowKit

structure Chg (B : Nat) (ts : List TypeId) (w w' : World) : Prop where
  os : w'.os = w.os
  tape : w'.tape = w.tape
  output : w'.output = w.output
  size : w.heap.size ≤ w'.heap.size
  block : ∀ k, k < w.heap.size → (k < B ∨ ∀ cs t r, w.heap[k]? = some (.cells cs t r) → t ∉ ts) → w'.heap[k]? = w.heap[k]?

theorem Chg.refl (B : Nat) (ts : List TypeId) (w : World) : Chg B ts w w := ⟨rfl, rfl, rfl, Nat.le_refl _, fun _ _ _ => rfl⟩
theorem Chg.trans {B : Nat} {ts : List TypeId} {a b c : World} (h : Chg B ts a b) (k : Chg B ts b c) : Chg B ts a c :=
  ⟨k.os.trans h.os, k.tape.trans h.tape, k.output.trans h.output, Nat.le_trans h.size k.size, fun i hi hp => by
    have e := h.block i hi hp
    refine (k.block i (Nat.lt_of_lt_of_le hi h.size) ?_).trans e
    rcases hp with hp | hp
    · exact .inl hp
    · exact .inr (by rw [e]; exact hp)⟩
theorem Chg.mono {B B' : Nat} {ts ts' : List TypeId} {w w' : World} (h : Chg B ts w w') (hB : B' ≤ B) (hts : ∀ t ∈ ts, t ∈ ts') : Chg B' ts' w w' :=
  ⟨h.os, h.tape, h.output, h.size, fun k hk hp => h.block k hk (by
    rcases hp with hp | hp
    · exact .inl (Nat.lt_of_lt_of_le hp hB)
    · exact .inr fun cs t r e hm => hp cs t r e (hts t hm))⟩
/-- nothing that was there has turned -/
theorem Chg.of_below {w w' : World} (h : Below w.heap.size w w') (B : Nat) (ts : List TypeId) : Chg B ts w w' := ⟨h.os, h.tape, h.output, h.size, fun k hk _ => h.block k hk⟩
theorem Chg.of_grownBy {B : Nat} {ts : List TypeId} {w w' : World} {row : Option Nat} (h : w.grownBy w' row)
    (hr : ∀ g, row = some g → B ≤ g ∧ ∃ cs t r, w.heap[g]? = some (.cells cs t r) ∧ t ∈ ts) : Chg B ts w w' :=
  ⟨h.os, h.tape, h.output, h.size, fun k hk hp => h.block k hk (fun e => by
    obtain ⟨h1, cs, t, r, h2, h3⟩ := hr k e.symm
    rcases hp with hp | hp
    · omega
    · exact hp cs t r h2 h3)⟩
theorem Chg.below {B : Nat} {ts : List TypeId} {w w' : World} (h : Chg B ts w w') (hB : B ≤ w.heap.size) : Below B w w' :=
  ⟨h.os, h.tape, h.output, h.size, fun k hk => h.block k (by omega) (.inl hk)⟩
theorem Chg.nil_below {B : Nat} {w w' : World} (h : Chg B [] w w') : Below w.heap.size w w' :=
  ⟨h.os, h.tape, h.output, h.size, fun k hk => h.block k hk (.inr fun _ _ _ _ hm => nomatch hm)⟩
theorem Chg.alloc (B : Nat) (ts : List TypeId) (w : World) (o : Obj) : Chg B ts w (w.alloc o) := Chg.of_below ((Below.refl _ _).alloc (Nat.le_refl _) _) _ _
theorem Chg.drew (B : Nat) (ts : List TypeId) (w : World) : Chg B ts w w.drew := ⟨rfl, rfl, rfl, Nat.le_refl _, fun _ _ _ => rfl⟩
theorem Chg.drewN (B : Nat) (ts : List TypeId) (w : World) (n : Nat) : Chg B ts w (w.drewN n) := ⟨rfl, rfl, rfl, Nat.le_refl _, fun _ _ _ => rfl⟩
theorem Chg.setCell {B : Nat} {ts : List TypeId} {w : World} {p : Addr} {cs : Array Value} {t : TypeId} {r : Nat × Nat} (u : Value) (hB : B ≤ p.block) (hb : w.heap[p.block]? = some (.cells cs t r)) (ht : t ∈ ts) : Chg B ts w (w.setCell p u) :=
  ⟨rfl, rfl, rfl, by simp [World.setCell], fun k _ hp => Below.heap_setCell w p u k (by
    rintro rfl
    rcases hp with hp | hp
    · omega
    · exact hp _ _ _ hb ht)⟩

/-- a block that is known whole, none of its cells frozen -/
def Blk (w : World) (g : Nat) (t : TypeId) (cs : Array Value) : Prop := w.heap[g]? = some (.cells cs t (0, 0))
theorem Blk.lt {w : World} {g : Nat} {t : TypeId} {cs : Array Value} (h : Blk w g t cs) : g < w.heap.size := (Array.getElem?_eq_some_iff.1 h).1
theorem Blk.cell {w : World} {g : Nat} {t : TypeId} {cs : Array Value} (h : Blk w g t cs) (i : Nat) : w.cell? ⟨g, i, none⟩ = cs[i]? := cell_of_row w g i cs t (0, 0) h
theorem Blk.frozen {w : World} {g : Nat} {t : TypeId} {cs : Array Value} (h : Blk w g t cs) (i : Nat) : w.frozen? ⟨g, i, none⟩ = false := by
  unfold Blk at h
  simp [World.frozen?, h]
theorem Blk.new (w : World) (t : TypeId) (cs : Array Value) : Blk (w.alloc (.cells cs t)) w.heap.size t cs := heap_alloc_new w _
theorem Blk.drewN {w : World} {g : Nat} {t : TypeId} {cs : Array Value} (h : Blk w g t cs) (n : Nat) : Blk (w.drewN n) g t cs := h
theorem Blk.set_ {w : World} {g : Nat} {t : TypeId} {cs : Array Value} (h : Blk w g t cs) (i : Nat) (u : Value) : Blk (w.setCell ⟨g, i, none⟩ u) g t (cs.setIfInBounds i u) := by
  unfold Blk at h ⊢
  simp [World.setCell, Array.getElem?_modify, h]
theorem Blk.chg {w w' : World} {g : Nat} {t : TypeId} {cs : Array Value} {B : Nat} {ts : List TypeId} (h : Blk w g t cs) (hc : Chg B ts w w') (ht : g < B ∨ t ∉ ts) : Blk w' g t cs :=
  (hc.block g h.lt (by
    rcases ht with ht | ht
    · exact .inl ht
    · refine .inr fun cs' t' r' e => ?_
      unfold Blk at h
      rw [h] at e
      cases e
      exact ht)).trans h

section
variable {w w' : World} {base : Nat} {e : TypeId} {size : Nat} {v : Value} {n : Nat} {xs : List Value} {B : Nat} {ts : List TypeId}
/-- an owned row stays, where no block of its type may turn -/
theorem own_chg (h : w.ownsRow base e size v n xs) (hc : Chg B ts w w') (ht : e ∉ ts) : w'.ownsRow base e size v n xs := by
  refine ⟨h.1, ?_⟩
  rcases h.2 with h2 | ⟨g, cap, cur, hv, hb, hg, r⟩
  · exact .inl h2
  · exact .inr ⟨g, cap, cur, hv, hb, Blk.chg (w := w) hg hc (.inr ht), r⟩
theorem own_below (h : w.ownsRow base e size v n xs) (hc : Below w.heap.size w w') : w'.ownsRow base e size v n xs := own_chg (ts := []) h (Chg.of_below hc 0 []) (by simp)
theorem own_mono {base' : Nat} (h : w.ownsRow base e size v n xs) (hb : base' ≤ base) : w.ownsRow base' e size v n xs := by
  refine ⟨h.1, ?_⟩
  rcases h.2 with h2 | ⟨g, cap, cur, hv, hb', r⟩
  · exact .inl h2
  · exact .inr ⟨g, cap, cur, hv, Nat.le_trans hb hb', r⟩
/-- what an append at an owned row does, as a 'Chg' -/
theorem own_grown (h : w.ownsRow base e size v n xs) (hg : w.grownBy w' v.ownBlock) (hB : B ≤ base) (ht : e ∈ ts) : Chg B ts w w' :=
  Chg.of_grownBy hg fun g hv => by
    rcases h.2 with ⟨rfl, _⟩ | ⟨g', cap, cur, rfl, hb, hgg, _⟩
    · cases hv
    · simp [Value.ownBlock] at hv
      subst hv
      exact ⟨by omega, _, _, _, hgg, ht⟩
end

theorem ret_bool {a b : Bool} (h : a = b) : Ending.returned (.bool a) = Ending.returned (.bool b) := by rw [h]
theorem ret_int {k : IntKind} {a b : Int} (h : a = b) : Ending.returned (.int k a) = Ending.returned (.int k b) := by rw [h]

/-- 'append(s, x)' of ONE element of 'size' cells at an owned row: the translation lays x in a block of its own first -/
theorem wpList_app_one {P : Program} (w : World) {ops : Array Oper} {rest : List Oper} {o : Oper} {a : Act} {Q : Exit → Act → World → Prop} (hgd : o.guard = none) (s x : Operand) (t : TypeId)
    (ho : o.op = .call { callee := .builtin .append, args := #[s, x], argTypes := #[t, t] })
    (base : Nat) (e : TypeId) (z : Value) (size bytes : Nat) (ht : P.underlying t = some (.slice e)) (hi : (P.info? e).map (fun i => (i.zero, i.size, i.bytes)) = some (some z, size, bytes))
    (hzs : z.cells.size = size) (hsz : 0 < size)
    (v : Value) (n : Nat) (xs : List Value) (hs : a.eval s = v) (hown : w.ownsRow base e size v n xs)
    (cs : List Value) (hx : a.eval x = .slice (some ⟨w.heap.size, 0, none⟩) 1 1) (hl : cs.length = size) (h1 : ∀ u ∈ cs, u.oneCell' = true)
    (h63 : n + 1 ≤ maxLen) (hbytes : (n + 1) * bytes ≤ 140737488355328) (hbase : base ≤ w.heap.size)
    (h : ∀ v' w', w'.ownsRow base e size v' (n + 1) (xs ++ cs) → w.grownBy w' v.ownBlock → wpList P ops Q rest (a.put o.dst v') w') :
    wpList P ops Q (o :: rest) a (w.alloc (.cells cs.toArray e)) := by
  obtain ⟨i0, hi0, hz0, hz1, hz2⟩ := info_parts hi
  refine wpList_append_own (w.alloc (.cells cs.toArray e)) hgd s x t ho base e i0 z size bytes ht hi0 hz0 hz1 hz2 hzs hsz v n xs hs (hown.alloc _) ⟨w.heap.size, 0, none⟩ 1 1 cs hx (by omega) ?_ h1 h63 hbytes (by simp; omega) ?_
  · intro j u hj
    rw [Addr.add_lit, Nat.zero_add, (Blk.new w e cs.toArray).cell j]
    simpa using hj
  · intro v' w' h2 h3 _
    refine h v' w' h2 ⟨h3.os, h3.tape, h3.output, Nat.le_trans (by simp) h3.size, fun k hk hne => ?_⟩
    rw [h3.block k (by simp; omega) hne]
    exact Below.heap_alloc w _ k hk

/-- 'append(b, s...)', s a string -/
theorem wpList_app_str {P : Program} (w : World) {ops : Array Oper} {rest : List Oper} {o : Oper} {a : Act} {Q : Exit → Act → World → Prop} (hgd : o.guard = none) (s x : Operand) (t u : TypeId)
    (ho : o.op = .call { callee := .builtin .append, args := #[s, x], argTypes := #[t, u] })
    (base : Nat) (e : TypeId) (ht : P.underlying t = some (.slice e)) (hu : P.underlying u = some .string) (hi : (P.info? e).map (fun i => (i.zero, i.size, i.bytes)) = some (some (.int .u8 0), 1, 1))
    (v : Value) (n : Nat) (xs : List Value) (hs : a.eval s = v) (hown : w.ownsRow base e 1 v n xs) (st : ByteArray) (hx : a.eval x = .string st)
    (h63 : n + st.size ≤ maxLen) (hbytes : n + st.size ≤ 140737488355328) (hbase : base ≤ w.heap.size)
    (h : ∀ v' w', w'.ownsRow base e 1 v' (n + st.size) (xs ++ Lib.strCells st) → w.grownBy w' v.ownBlock → wpList P ops Q rest (a.put o.dst v') w') :
    wpList P ops Q (o :: rest) a w := by
  obtain ⟨i0, hi0, hz0, hz1, hz2⟩ := info_parts hi
  refine wpList_plain hgd fun K hK => ?_
  obtain ⟨v', w', hr, h2, h3, _⟩ := Lib.run_append_own_string (P := P) w base t u o.type e i0 ht hu hi0 hz0 hz1 hz2 v n xs hown st h63 hbytes hbase
  unfold Oper.wp execOp
  simp only [ho, resolve, invoke, builtin, Sem.run_bind, Sem.run_pure, Result.andThen_ok, List.map_toArray, List.map_cons, List.map_nil, hs, hx, hr]
  exact hK _ _ (h v' w' h2 h3)
end Go.Mb
