/- Memory: worlds that only grow; how lists of plain data lie in memory; rows of the call's own. -/
import Derived.Test.YtmdakddgeagnmaaDoorData
import Derived.WalkKit
import Derived.Deep.Draws
import Derived.Deep.OwnRows
import Derived.Laws.OwnMore
import Derived.Deep.AppendLies
import Derived.Maps.AppendAt
import Derived.Laws.AppendOwnNone
import Derived.Lib.Hide
set_option linter.all false
namespace Ve
open Go Go.RowKit

/-- All that lay in w lies unturned in w'. -/
def Gr (w w' : World) : Prop := Below w.heap.size w w'
theorem Gr.refl (w : World) : Gr w w := Below.refl _ _
theorem Gr.size {w w' : World} (h : Gr w w') : w.heap.size ≤ w'.heap.size := Below.size h
theorem Gr.trans {a b c : World} (h : Gr a b) (k : Gr b c) : Gr a c := Below.trans h (Below.mono k h.size)
theorem Gr.alloc {a w : World} (h : Gr a w) (o : Obj) : Gr a (w.alloc o) := Below.alloc h h.size o
theorem Gr.drew {a w : World} (h : Gr a w) : Gr a w.drew := Below.drew h
theorem Gr.drewN {a w : World} (h : Gr a w) : ∀ n, Gr a (w.drewN n)
  | 0 => h
  | n + 1 => (Gr.drewN h n).drew
theorem Gr.lt {w w' : World} {o : Obj} (h : Gr (w.alloc o) w') : w.heap.size < w'.heap.size := by have := h.size; simp at this; omega
theorem Gr.setCell {a w : World} (h : Gr a w) {p : Addr} (hp : a.heap.size ≤ p.block) (v : Value) : Gr a (w.setCell p v) := Below.setCell h hp v
theorem Gr.cell {w w' : World} (h : Gr w w') {p : Addr} {v : Value} (hc : w.cell? p = some v) : w'.cell? p = some v :=
  (Below.cell h (World.block_lt_of_cell? w p hc)).trans hc
theorem Gr.cells {w w' : World} (h : Gr w w') : ∀ b o, b < w.heap.size → w'.cell? ⟨b, o, none⟩ = w.cell? ⟨b, o, none⟩ :=
  fun b o hb => Below.cell (p := ⟨b, o, none⟩) h hb
theorem Gr.frozens {w w' : World} (h : Gr w w') : ∀ b o, b < w.heap.size → w'.frozen? ⟨b, o, none⟩ = w.frozen? ⟨b, o, none⟩ :=
  fun b o hb => Below.frozen (p := ⟨b, o, none⟩) h hb
theorem Gr.block {w w' : World} (h : Gr w w') {b : Nat} (hb : b < w.heap.size) : w'.heap[b]? = w.heap[b]? := Below.block h b hb
theorem Gr.grownBy {w w' : World} (h : Gr w w') (row : Option Nat) : w.grownBy w' row := ⟨h.os, h.tape, h.output, h.size, fun i hi _ => Below.block h i hi⟩
/-- A row of the call's own has grown. -/
theorem Gr.grown {a w w' : World} (h : Gr a w) {row : Option Nat} (hg : w.grownBy w' row) (hr : ∀ k, row = some k → a.heap.size ≤ k) : Gr a w' := Below.grown h hg h.size hr

/-- The bound on all lengths. -/
def szS (s : ByteArray) : Prop := s.size ≤ 1099511627776
theorem szS.le {s : ByteArray} (h : szS s) : s.size ≤ 9223372036854775807 := by unfold szS at h; omega
theorem szS.lt {s : ByteArray} (h : szS s) : s.size < 9223372036854775807 := by unfold szS at h; omega
theorem szS.le40 {s : ByteArray} (h : szS s) : s.size ≤ 1099511627776 := h

/-! Lists of elements of k cells each. -/
def RowsR {α : Type} (R : World → α → List Value → Prop) (k : Nat) (w : World) : List α → List Value → Prop
  | [], xs => xs = []
  | x :: l, xs => ∃ cs rest, xs = cs ++ rest ∧ cs.length = k ∧ R w x cs ∧ RowsR R k w l rest
section
variable {α : Type} {R : World → α → List Value → Prop} {k : Nat} {w w' : World}
theorem RowsR.len {l : List α} {xs : List Value} (h : RowsR R k w l xs) : xs.length = l.length * k := by
  induction l generalizing xs with
  | nil => unfold RowsR at h; subst h; simp
  | cons x l ih =>
    obtain ⟨cs, rest, rfl, hk, _, hr⟩ := h
    rw [List.length_append, ih hr, hk, List.length_cons, Nat.succ_mul]; omega
theorem RowsR.map {l : List α} {xs : List Value} (hR : ∀ x cs, R w x cs → R w' x cs) (h : RowsR R k w l xs) : RowsR R k w' l xs := by
  induction l generalizing xs with
  | nil => exact h
  | cons x l ih =>
    obtain ⟨cs, rest, e, hk, hx, hr⟩ := h
    exact ⟨cs, rest, e, hk, hR _ _ hx, ih hr⟩
theorem RowsR.app {l m : List α} {xs ys : List Value} (h : RowsR R k w l xs) (h' : RowsR R k w m ys) : RowsR R k w (l ++ m) (xs ++ ys) := by
  induction l generalizing xs with
  | nil => unfold RowsR at h; subst h; exact h'
  | cons x l ih =>
    obtain ⟨cs, rest, rfl, hk, hx, hr⟩ := h
    exact ⟨cs, rest ++ ys, by rw [List.append_assoc], hk, hx, ih hr⟩
theorem RowsR.one {x : α} {cs : List Value} (hk : cs.length = k) (h : R w x cs) : RowsR R k w [x] cs := ⟨cs, [], by simp, hk, h, rfl⟩
theorem RowsR.get {l : List α} {xs : List Value} (h : RowsR R k w l xs) (i : Nat) (hi : i < l.length) :
    ∃ x cs, l[i]? = some x ∧ R w x cs ∧ cs.length = k ∧ ∀ j, j < k → xs[i * k + j]? = cs[j]? := by
  induction l generalizing xs i with
  | nil => simp at hi
  | cons x l ih =>
    obtain ⟨cs, rest, rfl, hk, hx, hr⟩ := h
    cases i with
    | zero => exact ⟨x, cs, rfl, hx, hk, fun j hj => by rw [Nat.zero_mul, Nat.zero_add, List.getElem?_append_left (by omega)]⟩
    | succ i =>
      obtain ⟨y, ds, hy, hR, hd, hg⟩ := ih hr i (by simpa using hi)
      exact ⟨y, ds, by simpa using hy, hR, hd, fun j hj => by rw [Nat.succ_mul, List.getElem?_append_right (by omega), ← hg j hj]; congr 1; omega⟩
theorem RowsR.drop {l : List α} {xs : List Value} (h : RowsR R k w l xs) : ∀ i, RowsR R k w (l.drop i) (xs.drop (i * k)) := by
  induction l generalizing xs with
  | nil => intro i; unfold RowsR at h; subst h; simp [RowsR]
  | cons x l ih =>
    intro i
    cases i with
    | zero => simpa using h
    | succ i =>
      obtain ⟨cs, rest, rfl, hk, hx, hr⟩ := h
      have e : (cs ++ rest).drop ((i + 1) * k) = rest.drop (i * k) := by
        rw [Nat.succ_mul, List.drop_append, List.drop_eq_nil_of_le (by omega), List.nil_append]
        congr 1; omega
      rw [List.drop_succ_cons, e]
      exact ih hr i
theorem RowsR.all {l : List α} {xs : List Value} {p : Value → Prop} (hR : ∀ x cs, R w x cs → ∀ u ∈ cs, p u) (h : RowsR R k w l xs) : ∀ u ∈ xs, p u := by
  induction l generalizing xs with
  | nil => unfold RowsR at h; subst h; simp
  | cons x l ih =>
    obtain ⟨cs, rest, rfl, hk, hx, hr⟩ := h
    intro u hu
    rcases List.mem_append.1 hu with h | h
    · exact hR _ _ hx u h
    · exact ih hr u h
end

/-- These cells lie at an address, n elements of k cells; of an empty list no address is asked. -/
def CellsIn (w : World) (a : Option Addr) (n : Nat) (xs : List Value) : Prop :=
  0 < n → ∃ b off, a = some ⟨b, off, none⟩ ∧ ∀ j u, xs[j]? = some u → w.cell? ⟨b, off + j, none⟩ = some u
theorem CellsIn.gr {w w' : World} {a : Option Addr} {n : Nat} {xs : List Value} (h : CellsIn w a n xs) (g : Gr w w') : CellsIn w' a n xs := by
  intro hn
  obtain ⟨b, off, e, hc⟩ := h hn
  exact ⟨b, off, e, fun j u hu => g.cell (hc j u hu)⟩

/-- A list in memory: the slice value v holds the elements of l, k cells each; R tells how the cells of one element read. -/
def RdList {α : Type} (R : World → α → List Value → Prop) (k : Nat) (w : World) (v : Value) (l : List α) : Prop :=
  ∃ a cap xs, v = .slice a l.length cap ∧ l.length ≤ cap ∧ cap ≤ maxLen ∧ l.length ≤ 1099511627776 ∧ RowsR R k w l xs ∧ CellsIn w a l.length xs
section
variable {α : Type} {R : World → α → List Value → Prop} {k : Nat} {w w' : World} {v : Value} {l : List α}
theorem RdList.gr (h : RdList R k w v l) (hR : ∀ x cs, R w x cs → R w' x cs) (hg : Gr w w') : RdList R k w' v l := by
  obtain ⟨a, cap, xs, hv, hc, hm, hb, hr, hx⟩ := h
  exact ⟨a, cap, xs, hv, hc, hm, hb, hr.map hR, hx.gr hg⟩
theorem RdList.slice (h : RdList R k w v l) : ∃ a cap, v = .slice a l.length cap ∧ l.length ≤ cap ∧ cap ≤ maxLen ∧ l.length ≤ 1099511627776 := by
  obtain ⟨a, cap, xs, hv, hc, hm, hb, _⟩ := h
  exact ⟨a, cap, hv, hc, hm, hb⟩
theorem RdList.len {a : Option Addr} {n cap : Nat} (h : RdList R k w (.slice a n cap) l) : l.length = n := by
  obtain ⟨a', cap', xs, hv, _⟩ := h
  injection hv with e1 e2 e3
  exact e2.symm
theorem RdList.get {a : Option Addr} {n cap : Nat} (h : RdList R k w (.slice a n cap) l) (i : Nat) (hi : i < n) :
    ∃ b off x cs, a = some ⟨b, off, none⟩ ∧ l[i]? = some x ∧ R w x cs ∧ cs.length = k ∧ ∀ j u, j < k → cs[j]? = some u → w.cell? ⟨b, off + i * k + j, none⟩ = some u := by
  obtain ⟨a', cap', xs, hv, hc, hm, hb, hr, hx⟩ := h
  injection hv with e1 e2 e3
  subst e1
  obtain ⟨x, cs, h1, h2, h3, h4⟩ := hr.get i (by omega)
  obtain ⟨b, off, e, hc⟩ := hx (by omega)
  exact ⟨b, off, x, cs, e, h1, h2, h3, fun j u hj hu => by rw [Nat.add_assoc]; exact hc _ _ ((h4 j hj).trans hu)⟩
theorem RdList.nil (w : World) (R : World → α → List Value → Prop) (k : Nat) : RdList R k w (.slice none 0 0) [] :=
  ⟨none, 0, [], rfl, Nat.le_refl _, by simp [maxLen], by simp, rfl, fun h => absurd h (by simp)⟩
end

/-! Rows of the call's own. -/
/-- The row v, made since the heap had base blocks, holds l; its block's elements are of type e. -/
def OwnL {α : Type} (R : World → α → List Value → Prop) (k : Nat) (base : Nat) (e : TypeId) (w : World) (v : Value) (l : List α) : Prop :=
  ∃ xs, w.ownsRow base e k v l.length xs ∧ RowsR R k w l xs
theorem own_shape {w : World} {base : Nat} {e : TypeId} {size n : Nat} {v : Value} {xs : List Value} (h : w.ownsRow base e size v n xs) : ∃ a cap, v = .slice a n cap ∧ n ≤ cap ∧ cap ≤ maxLen := by
  rcases h.2 with ⟨rfl, rfl⟩ | ⟨g, cap, cur, rfl, _, _, hc, hm, _⟩
  · exact ⟨none, 0, rfl, Nat.le_refl _, by simp [maxLen]⟩
  · exact ⟨_, cap, rfl, hc, hm⟩
section
variable {α : Type} {R : World → α → List Value → Prop} {k base : Nat} {e : TypeId} {w w' : World} {v : Value} {l : List α}
theorem OwnL.nil (w : World) (R : World → α → List Value → Prop) (k base : Nat) (e : TypeId) : OwnL R k base e w (.slice none 0 0) [] := ⟨[], World.ownsRow_nil .., rfl⟩
theorem OwnL.made (w : World) (R : World → α → List Value → Prop) (k base : Nat) (e : TypeId) (hb : base ≤ w.heap.size) : OwnL R k base e (w.alloc (.cells #[] e)) (.slice (some ⟨w.heap.size, 0, none⟩) 0 0) [] :=
  ⟨[], ⟨by simp, .inr ⟨w.heap.size, 0, #[], rfl, hb, heap_alloc_new w _, Nat.le_refl _, by simp [maxLen], by simp, by simp⟩⟩, rfl⟩
end
section
variable {α : Type} {R : World → α → List Value → Prop} {k : Nat} {w : World} {l : List α}
theorem RdList.none_nil {cap n : Nat} (h : RdList R k w (.slice none n cap) l) : l = [] := by
  obtain ⟨a, c, xs, hv, _, _, _, _, hx⟩ := h
  injection hv with e1 e2 e3
  subst e1
  cases l with
  | nil => rfl
  | cons x l => obtain ⟨b, off, e, _⟩ := hx (by simp); cases e
end
section
variable {α : Type} {R : World → α → List Value → Prop} {k base : Nat} {e : TypeId} {w w' : World} {v : Value} {l : List α}
theorem OwnL.slice (h : OwnL R k base e w v l) : ∃ a cap, v = .slice a l.length cap ∧ l.length ≤ cap ∧ cap ≤ maxLen := by
  obtain ⟨xs, ho, hr⟩ := h
  exact own_shape ho
theorem OwnL.gr (h : OwnL R k base e w v l) (hR : ∀ x cs, R w x cs → R w' x cs) (hg : Gr w w') : OwnL R k base e w' v l := by
  obtain ⟨xs, ho, hr⟩ := h
  exact ⟨xs, ho.kept (hg.grownBy none) (by cases v.ownBlock <;> simp), hr.map hR⟩
theorem OwnL.base_le {base' : Nat} (h : OwnL R k base e w v l) (hb : base' ≤ base) : OwnL R k base' e w v l := by
  obtain ⟨xs, ⟨h1, h2⟩, hr⟩ := h
  refine ⟨xs, ⟨h1, ?_⟩, hr⟩
  rcases h2 with h2 | ⟨g, cap, cur, e1, e2, rest⟩
  · exact .inl h2
  · exact .inr ⟨g, cap, cur, e1, by omega, rest⟩
theorem OwnL.rd (h : OwnL R k base e w v l) (hb : l.length ≤ 1099511627776) : RdList R k w v l := by
  obtain ⟨xs, ho, hr⟩ := h
  obtain ⟨a, cap, rfl, hc, hm⟩ := own_shape ho
  refine ⟨a, cap, xs, rfl, hc, hm, hb, hr, fun hn => ?_⟩
  obtain ⟨g, cap', hv, _, _⟩ := ho.form hn
  injection hv with e1 e2 e3
  refine ⟨g, 0, e1, fun j u hu => ?_⟩
  have := ho.cells (g := g) (by rw [e1]; rfl) j u hu
  rw [Nat.zero_add]
  unfold Addr.add at this
  split at this
  · rename_i h0; subst h0; exact this
  · simpa using this
end
/-- All blocks lie unturned but those from base on whose elements are of type e. -/
def Kt (base : Nat) (e : TypeId) (w w' : World) : Prop :=
  ∀ b, b < w.heap.size → (b < base ∨ ∀ c t f, w.heap[b]? = some (.cells c t f) → t ≠ e) → w'.heap[b]? = w.heap[b]?
theorem Kt.of_gr {base : Nat} {e : TypeId} {w w' : World} (h : Gr w w') : Kt base e w w' := fun _ hb _ => h.block hb
theorem Kt.of_own {base k n : Nat} {e : TypeId} {w w' : World} {v : Value} {xs : List Value} (h : w.ownsRow base e k v n xs) (hg : w.grownBy w' v.ownBlock) : Kt base e w w' := by
  intro b hb hc
  refine hg.block b hb ?_
  rcases h.2 with ⟨rfl, _⟩ | ⟨g, cap, cur, rfl, hbase, hh, _⟩
  · simp [Value.ownBlock]
  · simp only [Value.ownBlock, ne_eq, Option.some.injEq]
    rintro rfl
    rcases hc with hc | hc
    · omega
    · exact hc _ _ _ hh rfl
theorem OwnL.kt {α : Type} {R : World → α → List Value → Prop} {k base base' : Nat} {e e' : TypeId} {w w' : World} {v : Value} {l : List α} (h : OwnL R k base e w v l) (hR : ∀ x cs, R w x cs → R w' x cs) (hg : Kt base' e' w w') (hne : e ≠ e') : OwnL R k base e w' v l := by
  obtain ⟨xs, ⟨h1, h2⟩, hr⟩ := h
  refine ⟨xs, ⟨h1, ?_⟩, hr.map hR⟩
  rcases h2 with h2 | ⟨g, cap, cur, e1, e2, e3, rest⟩
  · exact .inl h2
  · refine .inr ⟨g, cap, cur, e1, e2, ?_, rest⟩
    rw [hg g (Array.getElem?_eq_some_iff.1 e3).1 (.inr fun c t f h => ?_), e3]
    rw [e3] at h
    injection h with h; injection h with _ h
    exact h ▸ hne
theorem OwnL.sl {α : Type} {R : World → α → List Value → Prop} {k base : Nat} {e : TypeId} {w : World} {v : Value} {l : List α} (h : OwnL R k base e w v l) : ∃ a n cap, v = .slice a n cap ∧ n ≤ cap ∧ cap ≤ 9223372036854775807 ∧ Hid (l.length = n) := by
  obtain ⟨a, cap, h1, h2, h3⟩ := h.slice
  exact ⟨a, _, cap, h1, h2, by unfold maxLen at h3; omega, Lib.hid rfl⟩
theorem RdList.sl {α : Type} {R : World → α → List Value → Prop} {k : Nat} {w : World} {v : Value} {l : List α} (h : RdList R k w v l) : ∃ a n cap, v = .slice a n cap ∧ n ≤ cap ∧ cap ≤ 9223372036854775807 ∧ n ≤ 1099511627776 ∧ Hid (l.length = n) := by
  obtain ⟨a, cap, h1, h2, h3, h4⟩ := h.slice
  exact ⟨a, _, cap, h1, h2, by unfold maxLen at h3; omega, h4, Lib.hid rfl⟩
/-- Block g is just these cells, of elements of type e, none frozen. -/
def Blk (w : World) (g : Nat) (e : TypeId) (cs : Array Value) : Prop := w.heap[g]? = some (.cells cs e (0, 0))
theorem Blk.lt {w : World} {g : Nat} {e : TypeId} {cs : Array Value} (h : Blk w g e cs) : g < w.heap.size := (Array.getElem?_eq_some_iff.1 h).1
theorem Blk.gr {w w' : World} {g : Nat} {e : TypeId} {cs : Array Value} (h : Blk w g e cs) (hg : Gr w w') : Blk w' g e cs := (hg.block h.lt).trans h
theorem Blk.cell {w : World} {g : Nat} {e : TypeId} {cs : Array Value} (h : Blk w g e cs) (o : Nat) : w.cell? ⟨g, o, none⟩ = cs[o]? := by
  unfold Blk at h; simp [World.cell?, h]
theorem Blk.frozen {w : World} {g : Nat} {e : TypeId} {cs : Array Value} (h : Blk w g e cs) (o : Nat) : w.frozen? ⟨g, o, none⟩ = false := by
  unfold Blk at h; simp [World.frozen?, h]
theorem Blk.new (w : World) (e : TypeId) (cs : Array Value) : Blk (w.alloc (.cells cs e)) w.heap.size e cs := heap_alloc_new w _
theorem Blk.alloc {w : World} {g : Nat} {e : TypeId} {cs : Array Value} (h : Blk w g e cs) (o : Obj) : Blk (w.alloc o) g e cs := (Below.heap_alloc w o g h.lt).trans h
theorem Blk.kt {base : Nat} {e e' : TypeId} {w w' : World} {g : Nat} {cs : Array Value} (h : Blk w g e cs) (k : Kt base e' w w') (hne : e ≠ e') : Blk w' g e cs :=
  (k g h.lt (.inr fun c t f hh => by rw [h] at hh; injection hh with hh; injection hh with _ hh; exact hh ▸ hne)).trans h
/-- Two blocks laid one behind the other. -/
theorem blk2 (w : World) (e1 : TypeId) (c1 : Array Value) (e2 : TypeId) (c2 : Array Value) :
    ∃ W, (w.alloc (.cells c1 e1)).alloc (.cells c2 e2) = W ∧ Blk W w.heap.size e1 c1 ∧ Blk W (w.heap.size + 1) e2 c2 ∧ Gr w W :=
  ⟨_, rfl, (Blk.new _ _ _).alloc _, by have := Blk.new (w.alloc (.cells c1 e1)) e2 c2; rwa [World.size_alloc] at this, ((Gr.refl w).alloc _).alloc _⟩
theorem Blk.set {w : World} {g : Nat} {e : TypeId} {cs : Array Value} (h : Blk w g e cs) (i : Nat) (v : Value) : Blk (w.setCell ⟨g, i, none⟩ v) g e (cs.setIfInBounds i v) := by
  unfold Blk at h ⊢
  simp [World.setCell, Array.getElem?_modify, h]
theorem Blk.far {w : World} {g : Nat} {e : TypeId} {cs : Array Value} (h : Blk w g e cs) {p : Addr} (hp : g ≠ p.block) (v : Value) : Blk (w.setCell p v) g e cs := (Below.heap_setCell w p v g hp).trans h
theorem OwnL.setCell {α : Type} {R : World → α → List Value → Prop} {k base : Nat} {e : TypeId} {w : World} {v : Value} {l : List α} (h : OwnL R k base e w v l) {a : Addr} (ha : a.block < base) (u : Value) (hR : ∀ x cs, R w x cs → R (w.setCell a u) x cs) : OwnL R k base e (w.setCell a u) v l := by
  obtain ⟨xs, ho, hr⟩ := h
  exact ⟨xs, ownsRow_setCell_below ho ha u, hr.map hR⟩
end Ve
