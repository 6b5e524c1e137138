/-
  A store: what its memory holds; the tree as a list of keys with their versions. No walk here.
-/
import Derived.Test.YtkgggioldpnfaaaPut3
import Derived.Test.YtkgggioldpnfaaaGet
import Derived.Test.YtkgggioldpnfaaaCl
import Derived.Test.YtkgggioldpnfaaaSt2
namespace Go.Mb
open Go.RowKit Go.Proofs.Ytkgggioldpnfaaa

/-- a commit -/
structure Com where
  seq : Int
  tm : Int
  ao : Option Addr
  n : Nat
  cap : Nat
  ws : List Wr
def Com.cells (c : Com) : List Value := [.int .i64 c.seq, .int .i64 c.tm, .slice c.ao c.n c.cap]
theorem Com.wide (l : List Com) : ∀ x ∈ l.map Com.cells, x.length = 3 := by
  intro x hx
  obtain ⟨y, _, rfl⟩ := List.mem_map.1 hx
  rfl
theorem Com.one_flat (l : List Com) : ∀ u ∈ (l.map Com.cells).flatten, u.oneCell' = true := by
  intro u hu
  obtain ⟨x, hx, hu⟩ := List.mem_flatten.1 hu
  obtain ⟨y, _, rfl⟩ := List.mem_map.1 hx
  simp [Com.cells] at hu
  rcases hu with rfl | rfl | rfl <;> rfl
def ComOk (base : Nat) (w : World) (c : Com) : Prop := w.ownsRow base 31 3 (.slice c.ao c.n c.cap) c.n (c.ws.map Wr.cells).flatten ∧ c.ws.length = c.n ∧ c.n ≤ 200

structure SAt (base S : Nat) (w : World) (low : Int) (hist : List Com) (its : List It) (N : Nat) (fs : List Lf) (lo : Option Addr) (lcap : Nat) (hao : Option Addr) (hcap : Nat) : Prop where
  blk : Blk w S 87 #[.slice lo fs.length lcap, .int .i64 its.length, .int .i64 low, .slice hao hist.length hcap]
  tree : TrAt base w #[.slice lo fs.length lcap, .int .i64 its.length, .int .i64 low, .slice hao hist.length hcap] 0 its.length fs lo lcap
  flt : flat fs = its
  hrow : w.ownsRow base 28 3 (.slice hao hist.length hcap) hist.length (hist.map Com.cells).flatten
  coms : ∀ c ∈ hist, ComOk base w c
  srt : Srt its
  few : its.length ≤ N ∧ hist.length ≤ N ∧ ∀ x ∈ its, x.n ≤ N
  hb : base ≤ S
  low0 : 0 ≤ low ∧ low ≤ 1099511627776
  lastv : ∀ x ∈ its, lastV x.vs ≤ low + hist.length
def StoreAt (base S : Nat) (w : World) (low : Int) (hist : List Com) (its : List It) (N : Nat) : Prop := ∃ fs lo lcap hao hcap, SAt base S w low hist its N fs lo lcap hao hcap

section
variable {base S : Nat} {w w' : World} {low : Int} {hist : List Com} {its : List It} {N : Nat}
theorem ComOk.chg {B : Nat} {ts : List TypeId} {c : Com} (h : ComOk base w c) (hc : Chg B ts w w') (h1 : 31 ∉ ts) : ComOk base w' c := ⟨own_chg h.1 hc h1, h.2⟩
theorem StoreAt.chg {B : Nat} {ts : List TypeId} (h : StoreAt base S w low hist its N) (hc : Chg B ts w w') (h0 : 87 ∉ ts) (h1 : 92 ∉ ts) (h2 : 124 ∉ ts) (h3 : 125 ∉ ts) (h4 : 28 ∉ ts) (h5 : 31 ∉ ts) : StoreAt base S w' low hist its N := by
  obtain ⟨fs, lo, lcap, hao, hcap, h⟩ := h
  exact ⟨fs, lo, lcap, hao, hcap, h.blk.chg hc (.inr h0), h.tree.chg hc h1 h2 h3, h.flt, own_chg h.hrow hc h4, fun c hm => (h.coms c hm).chg hc h5, h.srt, h.few, h.hb, h.low0, h.lastv⟩
theorem StoreAt.below (h : StoreAt base S w low hist its N) (hb : Below w.heap.size w w') : StoreAt base S w' low hist its N :=
  h.chg (Chg.of_below hb 0 []) (by simp) (by simp) (by simp) (by simp) (by simp) (by simp)
theorem StoreAt.lt (h : StoreAt base S w low hist its N) : S < w.heap.size := by
  obtain ⟨fs, lo, lcap, hao, hcap, h⟩ := h
  exact h.blk.lt
theorem StoreAt.cells (h : StoreAt base S w low hist its N) : w.cell? ⟨S, 2, none⟩ = some (.int .i64 low) ∧ ∃ hao hcap, w.cell? ⟨S, 3, none⟩ = some (.slice hao hist.length hcap) := by
  obtain ⟨fs, lo, lcap, hao, hcap, h⟩ := h
  exact ⟨by rw [h.blk.cell]; rfl, hao, hcap, by rw [h.blk.cell]; rfl⟩
end

/-- the tree, without its memory -/
abbrev AT := List (ByteArray × List Ver)
def It.ab (x : It) : ByteArray × List Ver := (x.key, x.vs)
def getA (l : AT) (k : ByteArray) : Option (List Ver) := (l.find? fun x => decide (x.1 = k)).map (·.2)
def upA (l : AT) (k : ByteArray) (vs : List Ver) : AT := l.filter (fun y => ltK y.1 k) ++ (k, vs) :: l.filter (fun y => ltK k y.1)
def stepW (seq : Int) (l : AT) (x : Wr) : AT := upA l x.key ((getA l x.key).getD [] ++ [⟨seq, x.val, x.gone⟩])
def stepC (seq : Int) (l : AT) (ws : List Wr) : AT := ws.foldl (stepW seq) l
theorem lookK_ab (l : List It) (k : ByteArray) : (lookK l k).map It.vs = getA (l.map It.ab) k := by
  induction l with
  | nil => rfl
  | cons a l ih =>
    unfold lookK getA at ih ⊢
    rw [List.map_cons, List.find?_cons, List.find?_cons]
    by_cases h : a.key = k
    · simp [It.ab, h]
    · simp only [It.ab, h, decide_false]
      exact ih
theorem ups_ab (l : List It) (x : It) : (ups l x).map It.ab = upA (l.map It.ab) x.key x.vs := by
  unfold ups upA
  rw [List.map_append, List.map_cons, List.filter_map, List.filter_map]
  rfl
theorem lookK_some {l : List It} {k : ByteArray} {y : It} (h : lookK l k = some y) : y ∈ l ∧ y.key = k := by
  unfold lookK at h
  exact ⟨List.mem_of_find?_eq_some h, by have := List.find?_some h; simpa using this⟩
theorem lookK_none {l : List It} {k : ByteArray} (h : lookK l k = none) : ∀ y ∈ l, y.key ≠ k := by
  unfold lookK at h
  intro y hy
  simpa using List.find?_eq_none.1 h y hy
theorem ups_mem {l : List It} {x y : It} (h : y ∈ ups l x) : y = x ∨ y ∈ l := by
  unfold ups at h
  rcases List.mem_append.1 h with h | h
  · exact .inr ((List.mem_filter.1 h).1)
  · rcases List.mem_cons.1 h with h | h
    · exact .inl h
    · exact .inr ((List.mem_filter.1 h).1)
theorem ups_srt {l : List It} {x : It} (h : Srt l) : Srt (ups l x) := by
  unfold ups Srt
  rw [List.pairwise_append]
  refine ⟨h.filter _, List.pairwise_cons.2 ⟨fun a ha => (List.mem_filter.1 ha).2, h.filter _⟩, fun a ha b hb => ?_⟩
  have h1 := (List.mem_filter.1 ha).2
  rcases List.mem_cons.1 hb with rfl | hb
  · exact h1
  · exact ltK_trans h1 (List.mem_filter.1 hb).2
theorem ups_length {l : List It} {x : It} (h : Srt l) : (ups l x).length = if (lookK l x.key).isSome then l.length else l.length + 1 := by
  have key : ∀ l : List It, Srt l → (l.filter fun y => ltK y.key x.key).length + (l.filter fun y => ltK x.key y.key).length + (if (lookK l x.key).isSome then 1 else 0) = l.length := by
    intro l
    induction l with
    | nil => intro _; rfl
    | cons a l ih =>
      intro hs
      obtain ⟨h1, h2⟩ := List.pairwise_cons.1 hs
      have h3 := ih h2
      rcases ltK_total a.key x.key with h4 | h4 | h4
      · have h5 : a.key ≠ x.key := fun e => by rw [e, ltK_irrefl] at h4; cases h4
        have h6 : lookK (a :: l) x.key = lookK l x.key := by simp [lookK, h5]
        rw [List.filter_cons, List.filter_cons, h4, ltK_asymm h4, h6]
        simp only [if_true, List.length_cons]
        have : (if false = true then a :: l.filter (fun y => ltK x.key y.key) else l.filter (fun y => ltK x.key y.key)) = l.filter (fun y => ltK x.key y.key) := if_neg Bool.false_ne_true
        rw [this]
        omega
      · have h6 : lookK (a :: l) x.key = some a := by simp [lookK, h4]
        have h7 : lookK l x.key = none := by
          unfold lookK
          rw [List.find?_eq_none]
          intro y hy
          have := h1 y hy
          rw [h4] at this
          simp
          intro e
          rw [e, ltK_irrefl] at this
          cases this
        rw [h7] at h3
        rw [List.filter_cons, List.filter_cons, h4, ltK_irrefl, h6]
        simp at h3 ⊢
        omega
      · have h5 : a.key ≠ x.key := fun e => by rw [e, ltK_irrefl] at h4; cases h4
        have h6 : lookK (a :: l) x.key = lookK l x.key := by simp [lookK, h5]
        rw [List.filter_cons, List.filter_cons, h4, ltK_asymm h4, h6]
        simp only [if_true, List.length_cons]
        have : (if false = true then a :: l.filter (fun y => ltK y.key x.key) else l.filter (fun y => ltK y.key x.key)) = l.filter (fun y => ltK y.key x.key) := if_neg Bool.false_ne_true
        rw [this]
        omega
  have := key l h
  unfold ups
  rw [List.length_append, List.length_cons]
  split at this <;> rename_i h5
  · rw [if_pos h5]; omega
  · rw [if_neg h5]; omega
theorem getA_upA_ne (l : AT) {k k' : ByteArray} (vs : List Ver) (hne : k' ≠ k) : getA (upA l k vs) k' = getA l k' := by
  unfold getA upA
  congr 1
  rw [List.find?_append, List.find?_cons]
  have h1 : decide (k = k') = false := decide_eq_false fun e => hne e.symm
  simp only [h1]
  have hf : ∀ (p : ByteArray × List Ver → Bool) (l : AT), (∀ x, x.1 = k' → p x = true) → (l.filter p).find? (fun x => decide (x.1 = k')) = l.find? (fun x => decide (x.1 = k')) := by
    intro p l hp
    rw [List.find?_filter]
    congr 1
    funext x
    by_cases hx : x.1 = k'
    · simp [hx, hp x hx]
    · simp [hx]
  have hn : ∀ (p : ByteArray × List Ver → Bool) (l : AT), (∀ x, x.1 = k' → p x = false) → (l.filter p).find? (fun x => decide (x.1 = k')) = none := by
    intro p l hp
    rw [List.find?_eq_none]
    intro x hx
    simp
    intro e
    have := (List.mem_filter.1 hx).2
    rw [hp x e] at this
    cases this
  rcases ltK_total k' k with h2 | h2 | h2
  · rw [hf _ l (fun x e => by rw [e]; exact h2), hn _ l (fun x e => by rw [e]; exact ltK_asymm h2)]
    simp
  · exact absurd h2 hne
  · rw [hn _ l (fun x e => by rw [e]; exact ltK_asymm h2), hf _ l (fun x e => by rw [e]; exact h2)]
    simp
theorem stepC_append (seq : Int) (l : AT) (ws : List Wr) (x : Wr) : stepC seq l (ws ++ [x]) = stepW seq (stepC seq l ws) x := by simp [stepC]
theorem getA_stepC_ne (seq : Int) (k' : ByteArray) : ∀ (ws : List Wr) (l : AT), (∀ x ∈ ws, x.key ≠ k') → getA (stepC seq l ws) k' = getA l k' := by
  intro ws
  induction ws with
  | nil => intro l _; rfl
  | cons a ws ih =>
    intro l h
    show getA (stepC seq (stepW seq l a) ws) k' = _
    rw [ih _ (fun x hx => h x (List.mem_cons_of_mem _ hx))]
    exact getA_upA_ne l _ (fun e => h a (List.mem_cons_self ..) e.symm)
/-- writes that rise: no key twice -/
theorem rises_pair {ws : List Wr} (h : risesB ws = true) : ws.Pairwise fun a b => ltK a.key b.key = true := by
  have hadj : ∀ i x y, ws[i]? = some x → ws[i + 1]? = some y → ltK x.key y.key = true := by
    intro i x y hx hy
    have hb : badAt ws (i + 1) = false := by
      cases hc : badAt ws (i + 1) with
      | false => rfl
      | true =>
        have := risesB_no (List.getElem?_eq_some_iff.1 hy).1 hc
        rw [h] at this; cases this
    rw [badAt_eq hy] at hb
    simp only [Bool.or_eq_false_iff] at hb
    have h2 := hb.2
    rw [ordBad_eq (p := x) (by simpa using hx)] at h2
    simp at h2
    exact h2
  clear h
  induction ws with
  | nil => exact List.Pairwise.nil
  | cons a ws ih =>
    have ht := ih (fun i x y hx hy => hadj (i + 1) x y hx hy)
    refine List.pairwise_cons.2 ⟨fun b hb => ?_, ht⟩
    cases ws with
    | nil => cases hb
    | cons c ws =>
      have h0 := hadj 0 a c rfl rfl
      rcases List.mem_cons.1 hb with rfl | hb
      · exact h0
      · exact ltK_trans h0 ((List.pairwise_cons.1 ht).1 b hb)
end Go.Mb
