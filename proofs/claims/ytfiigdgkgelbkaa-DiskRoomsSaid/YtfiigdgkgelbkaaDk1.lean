/-
  A disk in memory; what each of its functions comes to, in plain Lean; the laws for its map at the operation. No walk here.
-/
import Derived.Test.YtfiigdgkgelbkaaChecked
import Derived.Test.YtfiigdgkgelbkaaBase
import Derived.Test.YtfiigdgkgelbkaaCls
import Derived.Test.YtfiigdgkgelbkaaFil
import Derived.Maps.RangeWalk
import Derived.StillTailTactics
namespace Go.Mb
open Go.RowKit Go.WideMaps
/-- from w to w' only the blocks of a list may have turned -/
structure Tur (bs : List Nat) (w w' : World) : Prop where
  os : w'.os = w.os
  tape : w'.tape = w.tape
  output : w'.output = w.output
  size : w.heap.size ≤ w'.heap.size
  block : ∀ k, k < w.heap.size → k ∉ bs → w'.heap[k]? = w.heap[k]?
theorem Tur.refl (bs : List Nat) (w : World) : Tur bs w w := ⟨rfl, rfl, rfl, Nat.le_refl _, fun _ _ _ => rfl⟩
theorem Tur.trans {bs : List Nat} {a b c : World} (h : Tur bs a b) (k : Tur bs b c) : Tur bs a c :=
  ⟨k.os.trans h.os, k.tape.trans h.tape, k.output.trans h.output, Nat.le_trans h.size k.size, fun i hi hn => (k.block i (Nat.lt_of_lt_of_le hi h.size) hn).trans (h.block i hi hn)⟩
theorem Tur.mono {bs bs' : List Nat} {a b : World} (h : Tur bs a b) (hs : ∀ k ∈ bs, k ∈ bs') : Tur bs' a b := ⟨h.os, h.tape, h.output, h.size, fun i hi hn => h.block i hi fun hm => hn (hs i hm)⟩
theorem Tur.of_below {w w' : World} (h : Below w.heap.size w w') (bs : List Nat) : Tur bs w w' := ⟨h.os, h.tape, h.output, h.size, fun k hk _ => h.block k hk⟩
theorem Tur.of_map {w w' : World} {b : Nat} (h : w.mapTurned w' b) {bs : List Nat} (hb : b ∈ bs) : Tur bs w w' :=
  ⟨h.grown.os, h.grown.tape, h.grown.output, h.grown.size, fun k hk hn => h.grown.block k hk (fun e => hn (by cases e; exact hb))⟩
theorem Tur.setCell {bs : List Nat} (w : World) {p : Addr} (u : Value) (hp : p.block ∈ bs) : Tur bs w (w.setCell p u) :=
  ⟨rfl, rfl, rfl, by simp [World.setCell], fun k _ hn => Below.heap_setCell w p u k (fun e => hn (e ▸ hp))⟩
theorem Tur.drewN (bs : List Nat) (w : World) (n : Nat) : Tur bs w (w.drewN n) := ⟨rfl, rfl, rfl, Nat.le_refl _, fun _ _ _ => rfl⟩
theorem Tur.alloc (bs : List Nat) (w : World) (o : Obj) : Tur bs w (w.alloc o) := Tur.of_below ((Below.refl _ _).alloc (Nat.le_refl _) _) _
theorem Tur.below {bs : List Nat} {w w' : World} {B : Nat} (h : Tur bs w w') (hb : ∀ k ∈ bs, B ≤ k) (hB : B ≤ w.heap.size) : Below B w w' :=
  ⟨h.os, h.tape, h.output, h.size, fun k hk => h.block k (by omega) (fun hm => by have := hb k hm; omega)⟩
theorem Blk.tur {bs : List Nat} {w w' : World} {g : Nat} {t : TypeId} {cs : Array Value} (h : Blk w g t cs) (ht : Tur bs w w') (hg : g ∉ bs) : Blk w' g t cs := (ht.block g h.lt hg).trans h
theorem ownsMap_tur {H : Type} {P : Program} {k : TypeId} {R : Value → Option (DataW H × List MemPlace)} {w w' : World} {b n : Nat} {D : DataW H} {bs : List Nat} (h : w.ownsMap P k R b n D) (ht : Tur bs w w') (hb : b ∉ bs) : w'.ownsMap P k R b n D := by
  have hlt := h.lt
  obtain ⟨es, clock, hb', r⟩ := h
  exact ⟨es, clock, (ht.block b hlt hb).trans hb', r⟩

/-- a disk: its room, its files, whether it is down, how many turns are left -/
structure Dk where
  room : Int
  fs : List Fl
  down : Bool
  fall : Int
/-- a disk that holds together -/
structure DkOk (d : Dk) (N : Nat) : Prop where
  room : 0 ≤ d.room ∧ d.room ≤ 1048576
  srt : SrtF d.fs
  safe : ∀ f ∈ d.fs, 0 ≤ f.safe ∧ f.safe ≤ f.data.size
  fits : (sumF d.fs : Int) ≤ d.room
  few : d.fs.length ≤ N
  fall : -1 ≤ d.fall ∧ d.fall ≤ 9223372036854775807
  names : ∀ f ∈ d.fs, f.name.size ≤ 40
/-- a disk in memory: its cells in block S, its map in block m -/
structure DkAt (P : Program) (tS : TypeId) (w : World) (S m : Nat) (d : Dk) (N : Nat) : Prop where
  blk : Blk w S tS #[.int .i64 d.room, .map (some m), .bool d.down, .int .i64 d.fall]
  own : w.ownsMap P 9 fileR m d.fs.length (flsD d.fs)
  ok : DkOk d N
theorem DkAt.ne {P : Program} {tS : TypeId} {w : World} {S m : Nat} {d : Dk} {N : Nat} (h : DkAt P tS w S m d N) : S ≠ m := by
  rintro rfl
  obtain ⟨es, clock, hb, _⟩ := h.own
  have := h.blk
  unfold Blk at this
  rw [hb] at this
  cases this
theorem DkAt.tur {P : Program} {tS : TypeId} {w w' : World} {S m : Nat} {d : Dk} {N : Nat} {bs : List Nat} (h : DkAt P tS w S m d N) (ht : Tur bs w w') (h1 : S ∉ bs) (h2 : m ∉ bs) : DkAt P tS w' S m d N :=
  ⟨h.blk.tur ht h1, ownsMap_tur h.own ht h2, h.ok⟩
theorem DkAt.below {P : Program} {tS : TypeId} {w w' : World} {S m : Nat} {d : Dk} {N : Nat} (h : DkAt P tS w S m d N) (hb : Below w.heap.size w w') : DkAt P tS w' S m d N := h.tur (Tur.of_below hb []) (by simp) (by simp)
theorem DkOk.mono {d : Dk} {N N' : Nat} (h : DkOk d N) (hN : N ≤ N') : DkOk d N' := ⟨h.room, h.srt, h.safe, h.fits, Nat.le_trans h.few hN, h.fall, h.names⟩
theorem ownsMap_tight {P : Program} {k : TypeId} {w : World} {b n : Nat} {fs : List Fl} (h : w.ownsMap P k fileR b n (flsD fs)) : w.ownsMap P k fileR b fs.length (flsD fs) := by
  obtain ⟨es, clock, hb, F, hs, hD⟩ := h
  refine ⟨es, clock, hb, F, ?_, hD⟩
  have := congrArg (fun d : DataW Unit => match d with | .map es => es.length | _ => 0) hD
  simp only [flsD, List.length_map, length_sorted] at this
  simp at this
  omega

/-- what a look-up of a name tells: the bytes, how many are safe, whether there is such a file -/
def FileV (fs : List Fl) (k : ByteArray) (s : ByteArray) (n : Int) (there : Bool) : Prop :=
  match lookF fs k with
  | none => s = ⟨#[]⟩ ∧ n = 0 ∧ there = false
  | some f => s = f.data ∧ n = f.safe ∧ there = true
theorem fileV_ex (fs : List Fl) (k : ByteArray) : ∃ s n there, FileV fs k s n there := by
  unfold FileV
  cases lookF fs k with
  | none => exact ⟨_, _, _, rfl, rfl, rfl⟩
  | some f => exact ⟨_, _, _, rfl, rfl, rfl⟩
theorem FileV.has {fs : List Fl} {k s : ByteArray} {n : Int} {there : Bool} (h : FileV fs k s n there) : there = (lookF fs k).isSome := by
  unfold FileV at h
  cases hl : lookF fs k <;> rw [hl] at h <;> simp [h.2.2]

section
variable {P : Program} (w : World) {ops : Array Oper} {rest : List Oper} {o : Oper} {a : Act} {Q : Exit → Act → World → Prop}
theorem look_file {t e : TypeId} (K : Maps.Keyed P 9) (ht : P.underlying t = some (.map 9 e)) (hz : (zeroValue e).run P w = .ok (.agg #[.string ⟨#[]⟩, .int .i64 0]) w) (hk9 : P.underlying 9 = some .string) {b n : Nat} {fs : List Fl}
    (hown : w.ownsMap P 9 fileR b n (flsD fs)) {k s : ByteArray} {i : Int} {there : Bool} (hkl : k.size ≤ maxLen) (hv : FileV fs k s i there) :
    (Instr.lookup t (.map (some b)) (.string k) true).run P w = .ok (.tuple #[.agg #[.string s, .int .i64 i], .bool there]) w ∧ (Instr.lookup t (.map (some b)) (.string k) false).run P w = .ok (.agg #[.string s, .int .i64 i]) w := by
  have hkey : keyOf P 9 (.string k) = some (keyL k) := keyOf_string_mk hk9 hkl
  obtain ⟨v, ps, hrun, hR⟩ := hown.look_ok K ht hz (fileR_mk _ _) hkey
  obtain ⟨v2, ps2, hrun2, hR2⟩ := hown.lookup K ht hz (fileR_mk _ _) hkey
  rw [flsD_at] at hR hR2
  rw [flsD_has, ← hv.has] at hrun
  unfold FileV at hv
  cases hl : lookF fs k with
  | none =>
    rw [hl] at hv hR hR2
    obtain ⟨rfl, rfl, rfl⟩ := hv
    have e1 := fileR_val (f := ⟨k, ⟨#[]⟩, 0⟩) hR
    have e2 := fileR_val (f := ⟨k, ⟨#[]⟩, 0⟩) hR2
    rw [e1] at hrun
    rw [e2] at hrun2
    exact ⟨hrun, hrun2⟩
  | some f =>
    rw [hl] at hv hR hR2
    obtain ⟨rfl, rfl, rfl⟩ := hv
    rw [fileR_val hR] at hrun
    rw [fileR_val hR2] at hrun2
    exact ⟨hrun, hrun2⟩

/-- 'f, there := d.files[name]' -/
theorem wpList_look_file_ok (hg : o.guard = none) (m x : Operand) (t : TypeId) (hop : o.op = Op.lookup t m x true) (e : TypeId) (K : Maps.Keyed P 9) (ht : P.underlying t = some (.map 9 e)) (hk9 : P.underlying 9 = some .string)
    (hz : (zeroValue e).run P w = .ok (.agg #[.string ⟨#[]⟩, .int .i64 0]) w) (b n : Nat) (fs : List Fl) (hm : a.eval m = .map (some b)) (hown : w.ownsMap P 9 fileR b n (flsD fs)) (k : ByteArray) (hx : a.eval x = .string k) (hkl : k.size ≤ maxLen)
    (s : ByteArray) (i : Int) (there : Bool) (hv : FileV fs k s i there) (hK : wpList P ops Q rest (a.put o.dst (.tuple #[.agg #[.string s, .int .i64 i], .bool there])) w) : wpList P ops Q (o :: rest) a w := by
  refine wpList_plain hg fun K' hK' => ?_
  have hrun := (look_file w K ht hz hk9 hown hkl hv).1
  unfold Oper.wp
  simp [execOp, hop, hm, hx, hrun, Result.andThen]
  exact hK' _ _ hK
/-- 'f := d.files[name]' -/
theorem wpList_look_file (hg : o.guard = none) (m x : Operand) (t : TypeId) (hop : o.op = Op.lookup t m x false) (e : TypeId) (K : Maps.Keyed P 9) (ht : P.underlying t = some (.map 9 e)) (hk9 : P.underlying 9 = some .string)
    (hz : (zeroValue e).run P w = .ok (.agg #[.string ⟨#[]⟩, .int .i64 0]) w) (b n : Nat) (fs : List Fl) (hm : a.eval m = .map (some b)) (hown : w.ownsMap P 9 fileR b n (flsD fs)) (k : ByteArray) (hx : a.eval x = .string k) (hkl : k.size ≤ maxLen)
    (s : ByteArray) (i : Int) (there : Bool) (hv : FileV fs k s i there) (hK : wpList P ops Q rest (a.put o.dst (.agg #[.string s, .int .i64 i])) w) : wpList P ops Q (o :: rest) a w := by
  refine wpList_plain hg fun K' hK' => ?_
  have hrun := (look_file w K ht hz hk9 hown hkl hv).2
  unfold Oper.wp
  simp [execOp, hop, hm, hx, hrun, Result.andThen]
  exact hK' _ _ hK
/-- 'd.files[name] = f' -/
theorem wpList_put_file (hg : o.guard = none) (m x v : Operand) (t : TypeId) (hop : o.op = Op.mapUpdate t m x v) (e : TypeId) (K : Maps.Keyed P 9) (ht : P.underlying t = some (.map 9 e)) (hk9 : P.underlying 9 = some .string)
    (b : Nat) (fs : List Fl) (hm : a.eval m = .map (some b)) (hown : w.ownsMap P 9 fileR b fs.length (flsD fs)) (hn : fs.length < maxLen) (f : Fl) (hx : a.eval x = .string f.name) (hv : a.eval v = .agg #[.string f.data, .int .i64 f.safe]) (hkl : f.name.size ≤ maxLen)
    (hK : ∀ w', w'.ownsMap P 9 fileR b (putF fs f).length (flsD (putF fs f)) → w.mapTurned w' b → wpList P ops Q rest (a.put o.dst undef) w') : wpList P ops Q (o :: rest) a w := by
  have hkey : keyOf P 9 (.string f.name) = some (keyL f.name) := keyOf_string_mk hk9 hkl
  refine wpList_mapUpdate_in w hg m x v t hop 9 e K ht fileR b fs.length (flsD fs) hm hown hn _ _ (keyL f.name) hx hv hkey f.val [] (fileR_mk _ _) fun w' h1 h2 => ?_
  rw [flsD_put] at h1
  exact hK w' (ownsMap_tight h1) h2
/-- 'delete(d.files, name)' -/
theorem wpList_del_file (hg : o.guard = none) (m x : Operand) (t : TypeId) (hop : o.op = Op.call { callee := Callee.builtin Builtin.delete, args := #[m, x], argTypes := #[t, 9] }) (e : TypeId) (K : Maps.Keyed P 9) (ht : P.underlying t = some (.map 9 e)) (hk9 : P.underlying 9 = some .string)
    (b n : Nat) (fs : List Fl) (hm : a.eval m = .map (some b)) (hown : w.ownsMap P 9 fileR b n (flsD fs)) (k : ByteArray) (hx : a.eval x = .string k) (hkl : k.size ≤ maxLen)
    (hK : ∀ w', w'.ownsMap P 9 fileR b (delF fs k).length (flsD (delF fs k)) → w.mapTurned w' b → wpList P ops Q rest (a.put o.dst (.tuple #[])) w') : wpList P ops Q (o :: rest) a w := by
  have hkey : keyOf P 9 (.string k) = some (keyL k) := keyOf_string_mk hk9 hkl
  refine wpList_delete_own w hg m x t 9 hop e K ht fileR b n (flsD fs) hm hown _ (keyL k) hx hkey fun w' h1 h2 => ?_
  rw [flsD_del] at h1
  exact hK w' (ownsMap_tight h1) h2
end

/-! ### what the functions come to -/
/-- ahead of each call that turns something -/
def Dk.turn (d : Dk) : Int × Dk :=
  if d.down then (8, d) else if d.fall = 0 then (8, { d with down := true }) else if 0 < d.fall then (0, { d with fall := d.fall - 1 }) else (0, d)
def nameBad (k : ByteArray) : Bool := k.toList.isEmpty || decide ((40 : Int) < k.size)
def Dk.free (d : Dk) : Int := d.room - sumF d.fs
def Dk.file (d : Dk) (k : ByteArray) : Fl := (lookF d.fs k).getD ⟨k, ⟨#[]⟩, 0⟩
def Dk.append (d : Dk) (k s : ByteArray) : Int × Dk :=
  let (c, d) := d.turn
  if c ≠ 0 then (c, d) else if nameBad k then (1, d) else if d.free < s.size then (7, d) else (0, { d with fs := putF d.fs ⟨k, (d.file k).data ++ s, (d.file k).safe⟩ })
def Dk.sync (d : Dk) (k : ByteArray) : Int × Dk :=
  let (c, d) := d.turn
  if c ≠ 0 then (c, d) else match lookF d.fs k with | none => (5, d) | some f => (0, { d with fs := putF d.fs ⟨k, f.data, f.data.size⟩ })
def Dk.rename (d : Dk) (k k' : ByteArray) : Int × Dk :=
  let (c, d) := d.turn
  if c ≠ 0 then (c, d) else if nameBad k' then (1, d) else match lookF d.fs k with | none => (5, d) | some f => (0, { d with fs := putF (delF d.fs k) ⟨k', f.data, f.safe⟩ })
def Dk.remove (d : Dk) (k : ByteArray) : Int × Dk :=
  let (c, d) := d.turn
  if c ≠ 0 then (c, d) else match lookF d.fs k with | none => (5, d) | some _ => (0, { d with fs := delF d.fs k })
def Dk.truncate (d : Dk) (k : ByteArray) (n : Int) : Int × Dk :=
  let (c, d) := d.turn
  if c ≠ 0 then (c, d) else match lookF d.fs k with
    | none => (5, d)
    | some f => if n < 0 ∨ (f.data.size : Int) < n then (1, d) else (0, { d with fs := putF d.fs ⟨k, f.data.extract 0 n.toNat, min f.safe n⟩ })
def Dk.falls (d : Dk) (n : Int) : Dk := { d with fall := max n 0 }
def Dk.read (d : Dk) (k : ByteArray) : ByteArray × Int := if d.down then (⟨#[]⟩, 8) else match lookF d.fs k with | none => (⟨#[]⟩, 5) | some f => (f.data, 0)
end Go.Mb
