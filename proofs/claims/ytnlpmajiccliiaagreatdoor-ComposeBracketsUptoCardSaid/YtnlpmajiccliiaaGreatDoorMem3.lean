/- Memory: worlds that only grow; how lists of plain data lie in memory; rows of the call's own. -/
import Derived.Test.YtnlpmajiccliiaaGreatDoorSpec
import Derived.WalkKit
import Derived.Deep.Draws
import Derived.Deep.OwnRows
import Derived.Laws.OwnMore
import Derived.Deep.AppendLies
import Derived.Maps.AppendAt
import Derived.Laws.AppendOwnNone
import Derived.Lib.Hide
import Derived.Test.YtnlpmajiccliiaaGreatDoorProg
import Derived.KernelRfl
import Derived.OwnWalk
import Derived.WalkSmall
set_option linter.all false
namespace Ve
open Go Go.RowKit

/-- All that lay in w lies unturned in w'. -/
def Gr (w w' : World) : Prop := Below w.heap.size w w'
theorem Gr.refl (w : World) : Gr w w := Below.refl _ _
theorem Gr.size {w w' : World} (h : Gr w w') : w.heap.size ≤ w'.heap.size := Below.size h
theorem Gr.trans {a b c : World} (h : Gr a b) (k : Gr b c) : Gr a c := Below.trans h (Below.mono k h.size)
theorem Gr.alloc {a w : World} (h : Gr a w) (o : Obj) : Gr a (w.alloc o) := Below.alloc h h.size o
theorem Gr.drew {a w : World} (h : Gr a w) : Gr a w.drew := Below.drew h
theorem Gr.drewN {a w : World} (h : Gr a w) : ∀ n, Gr a (w.drewN n)
  | 0 => h
  | n + 1 => (Gr.drewN h n).drew
theorem Gr.lt {w w' : World} {o : Obj} (h : Gr (w.alloc o) w') : w.heap.size < w'.heap.size := by have := h.size; simp at this; omega
theorem Gr.setCell {a w : World} (h : Gr a w) {p : Addr} (hp : a.heap.size ≤ p.block) (v : Value) : Gr a (w.setCell p v) := Below.setCell h hp v
theorem Gr.cell {w w' : World} (h : Gr w w') {p : Addr} {v : Value} (hc : w.cell? p = some v) : w'.cell? p = some v :=
  (Below.cell h (World.block_lt_of_cell? w p hc)).trans hc
theorem Gr.cells {w w' : World} (h : Gr w w') : ∀ b o, b < w.heap.size → w'.cell? ⟨b, o, none⟩ = w.cell? ⟨b, o, none⟩ :=
  fun b o hb => Below.cell (p := ⟨b, o, none⟩) h hb
theorem Gr.frozens {w w' : World} (h : Gr w w') : ∀ b o, b < w.heap.size → w'.frozen? ⟨b, o, none⟩ = w.frozen? ⟨b, o, none⟩ :=
  fun b o hb => Below.frozen (p := ⟨b, o, none⟩) h hb
theorem Gr.block {w w' : World} (h : Gr w w') {b : Nat} (hb : b < w.heap.size) : w'.heap[b]? = w.heap[b]? := Below.block h b hb
theorem Gr.grownBy {w w' : World} (h : Gr w w') (row : Option Nat) : w.grownBy w' row := ⟨h.os, h.tape, h.output, h.size, fun i hi _ => Below.block h i hi⟩
/-- A row of the call's own has grown. -/
theorem Gr.grown {a w w' : World} (h : Gr a w) {row : Option Nat} (hg : w.grownBy w' row) (hr : ∀ k, row = some k → a.heap.size ≤ k) : Gr a w' := Below.grown h hg h.size hr

/-- The bound on all lengths. -/
def szS (s : ByteArray) : Prop := s.size ≤ 1099511627776
theorem szS.le {s : ByteArray} (h : szS s) : s.size ≤ 9223372036854775807 := by unfold szS at h; omega
theorem szS.lt {s : ByteArray} (h : szS s) : s.size < 9223372036854775807 := by unfold szS at h; omega
theorem szS.le40 {s : ByteArray} (h : szS s) : s.size ≤ 1099511627776 := h

/-! Lists of elements of k cells each. -/
def RowsR {α : Type} (R : World → α → List Value → Prop) (k : Nat) (w : World) : List α → List Value → Prop
  | [], xs => xs = []
  | x :: l, xs => ∃ cs rest, xs = cs ++ rest ∧ cs.length = k ∧ R w x cs ∧ RowsR R k w l rest
section
variable {α : Type} {R : World → α → List Value → Prop} {k : Nat} {w w' : World}
theorem RowsR.len {l : List α} {xs : List Value} (h : RowsR R k w l xs) : xs.length = l.length * k := by
  induction l generalizing xs with
  | nil => unfold RowsR at h; subst h; simp
  | cons x l ih =>
    obtain ⟨cs, rest, rfl, hk, _, hr⟩ := h
    rw [List.length_append, ih hr, hk, List.length_cons, Nat.succ_mul]; omega
theorem RowsR.map {l : List α} {xs : List Value} (hR : ∀ x cs, R w x cs → R w' x cs) (h : RowsR R k w l xs) : RowsR R k w' l xs := by
  induction l generalizing xs with
  | nil => exact h
  | cons x l ih =>
    obtain ⟨cs, rest, e, hk, hx, hr⟩ := h
    exact ⟨cs, rest, e, hk, hR _ _ hx, ih hr⟩
theorem RowsR.app {l m : List α} {xs ys : List Value} (h : RowsR R k w l xs) (h' : RowsR R k w m ys) : RowsR R k w (l ++ m) (xs ++ ys) := by
  induction l generalizing xs with
  | nil => unfold RowsR at h; subst h; exact h'
  | cons x l ih =>
    obtain ⟨cs, rest, rfl, hk, hx, hr⟩ := h
    exact ⟨cs, rest ++ ys, by rw [List.append_assoc], hk, hx, ih hr⟩
theorem RowsR.one {x : α} {cs : List Value} (hk : cs.length = k) (h : R w x cs) : RowsR R k w [x] cs := ⟨cs, [], by simp, hk, h, rfl⟩
theorem RowsR.get {l : List α} {xs : List Value} (h : RowsR R k w l xs) (i : Nat) (hi : i < l.length) :
    ∃ x cs, l[i]? = some x ∧ R w x cs ∧ cs.length = k ∧ ∀ j, j < k → xs[i * k + j]? = cs[j]? := by
  induction l generalizing xs i with
  | nil => simp at hi
  | cons x l ih =>
    obtain ⟨cs, rest, rfl, hk, hx, hr⟩ := h
    cases i with
    | zero => exact ⟨x, cs, rfl, hx, hk, fun j hj => by rw [Nat.zero_mul, Nat.zero_add, List.getElem?_append_left (by omega)]⟩
    | succ i =>
      obtain ⟨y, ds, hy, hR, hd, hg⟩ := ih hr i (by simpa using hi)
      exact ⟨y, ds, by simpa using hy, hR, hd, fun j hj => by rw [Nat.succ_mul, List.getElem?_append_right (by omega), ← hg j hj]; congr 1; omega⟩
theorem RowsR.via {β : Type} {R' : World → β → List Value → Prop} (f : α → β) {l : List α} {xs : List Value} (hR : ∀ x cs, R w x cs → R' w (f x) cs) (h : RowsR R k w l xs) : RowsR R' k w (l.map f) xs := by
  induction l generalizing xs with
  | nil => exact h
  | cons x l ih =>
    obtain ⟨cs, rest, rfl, hk, hx, hr⟩ := h
    exact ⟨cs, rest, rfl, hk, hR _ _ hx, ih hr⟩
theorem RowsR.mem {l : List α} {xs : List Value} (h : RowsR R k w l xs) : ∀ x ∈ l, ∃ cs, R w x cs := by
  induction l generalizing xs with
  | nil => intro x hx; cases hx
  | cons y l ih =>
    obtain ⟨cs, rest, rfl, hk, hy, hr⟩ := h
    intro x hx
    rcases List.mem_cons.1 hx with rfl | hx
    · exact ⟨_, hy⟩
    · exact ih hr x hx
theorem RowsR.drop {l : List α} {xs : List Value} (h : RowsR R k w l xs) : ∀ i, RowsR R k w (l.drop i) (xs.drop (i * k)) := by
  induction l generalizing xs with
  | nil => intro i; unfold RowsR at h; subst h; simp [RowsR]
  | cons x l ih =>
    intro i
    cases i with
    | zero => simpa using h
    | succ i =>
      obtain ⟨cs, rest, rfl, hk, hx, hr⟩ := h
      have e : (cs ++ rest).drop ((i + 1) * k) = rest.drop (i * k) := by
        rw [Nat.succ_mul, List.drop_append, List.drop_eq_nil_of_le (by omega), List.nil_append]
        congr 1; omega
      rw [List.drop_succ_cons, e]
      exact ih hr i
theorem RowsR.all {l : List α} {xs : List Value} {p : Value → Prop} (hR : ∀ x cs, R w x cs → ∀ u ∈ cs, p u) (h : RowsR R k w l xs) : ∀ u ∈ xs, p u := by
  induction l generalizing xs with
  | nil => unfold RowsR at h; subst h; simp
  | cons x l ih =>
    obtain ⟨cs, rest, rfl, hk, hx, hr⟩ := h
    intro u hu
    rcases List.mem_append.1 hu with h | h
    · exact hR _ _ hx u h
    · exact ih hr u h
end

/-- These cells lie at an address, n elements of k cells; of an empty list no address is asked. -/
def CellsIn (w : World) (a : Option Addr) (n : Nat) (xs : List Value) : Prop :=
  0 < n → ∃ b off, a = some ⟨b, off, none⟩ ∧ ∀ j u, xs[j]? = some u → w.cell? ⟨b, off + j, none⟩ = some u
theorem CellsIn.gr {w w' : World} {a : Option Addr} {n : Nat} {xs : List Value} (h : CellsIn w a n xs) (g : Gr w w') : CellsIn w' a n xs := by
  intro hn
  obtain ⟨b, off, e, hc⟩ := h hn
  exact ⟨b, off, e, fun j u hu => g.cell (hc j u hu)⟩

/-- A list in memory: the slice value v holds the elements of l, k cells each; R tells how the cells of one element read. -/
def RdList {α : Type} (R : World → α → List Value → Prop) (k : Nat) (w : World) (v : Value) (l : List α) : Prop :=
  ∃ a cap xs, v = .slice a l.length cap ∧ l.length ≤ cap ∧ cap ≤ maxLen ∧ l.length ≤ 1099511627776 ∧ RowsR R k w l xs ∧ CellsIn w a l.length xs
section
variable {α : Type} {R : World → α → List Value → Prop} {k : Nat} {w w' : World} {v : Value} {l : List α}
theorem RdList.gr (h : RdList R k w v l) (hR : ∀ x cs, R w x cs → R w' x cs) (hg : Gr w w') : RdList R k w' v l := by
  obtain ⟨a, cap, xs, hv, hc, hm, hb, hr, hx⟩ := h
  exact ⟨a, cap, xs, hv, hc, hm, hb, hr.map hR, hx.gr hg⟩
theorem RdList.slice (h : RdList R k w v l) : ∃ a cap, v = .slice a l.length cap ∧ l.length ≤ cap ∧ cap ≤ maxLen ∧ l.length ≤ 1099511627776 := by
  obtain ⟨a, cap, xs, hv, hc, hm, hb, _⟩ := h
  exact ⟨a, cap, hv, hc, hm, hb⟩
theorem RdList.len {a : Option Addr} {n cap : Nat} (h : RdList R k w (.slice a n cap) l) : l.length = n := by
  obtain ⟨a', cap', xs, hv, _⟩ := h
  injection hv with e1 e2 e3
  exact e2.symm
theorem RdList.get {a : Option Addr} {n cap : Nat} (h : RdList R k w (.slice a n cap) l) (i : Nat) (hi : i < n) :
    ∃ b off x cs, a = some ⟨b, off, none⟩ ∧ l[i]? = some x ∧ R w x cs ∧ cs.length = k ∧ ∀ j u, j < k → cs[j]? = some u → w.cell? ⟨b, off + i * k + j, none⟩ = some u := by
  obtain ⟨a', cap', xs, hv, hc, hm, hb, hr, hx⟩ := h
  injection hv with e1 e2 e3
  subst e1
  obtain ⟨x, cs, h1, h2, h3, h4⟩ := hr.get i (by omega)
  obtain ⟨b, off, e, hc⟩ := hx (by omega)
  exact ⟨b, off, x, cs, e, h1, h2, h3, fun j u hj hu => by rw [Nat.add_assoc]; exact hc _ _ ((h4 j hj).trans hu)⟩
theorem RdList.nil (w : World) (R : World → α → List Value → Prop) (k : Nat) : RdList R k w (.slice none 0 0) [] :=
  ⟨none, 0, [], rfl, Nat.le_refl _, by simp [maxLen], by simp, rfl, fun h => absurd h (by simp)⟩
end

/-! Rows of the call's own. -/
/-- The row v, made since the heap had base blocks, holds l; its block's elements are of type e. -/
def OwnL {α : Type} (R : World → α → List Value → Prop) (k : Nat) (base : Nat) (e : TypeId) (w : World) (v : Value) (l : List α) : Prop :=
  ∃ xs, w.ownsRow base e k v l.length xs ∧ RowsR R k w l xs
theorem OwnL.via {α β : Type} {R : World → α → List Value → Prop} {R' : World → β → List Value → Prop} (f : α → β) {k base : Nat} {e : TypeId} {w : World} {v : Value} {l : List α} (hR : ∀ x cs, R w x cs → R' w (f x) cs) (h : OwnL R k base e w v l) : OwnL R' k base e w v (l.map f) := by
  obtain ⟨xs, ho, hr⟩ := h
  exact ⟨xs, by rw [List.length_map]; exact ho, hr.via f hR⟩
theorem own_shape {w : World} {base : Nat} {e : TypeId} {size n : Nat} {v : Value} {xs : List Value} (h : w.ownsRow base e size v n xs) : ∃ a cap, v = .slice a n cap ∧ n ≤ cap ∧ cap ≤ maxLen := by
  rcases h.2 with ⟨rfl, rfl⟩ | ⟨g, cap, cur, rfl, _, _, hc, hm, _⟩
  · exact ⟨none, 0, rfl, Nat.le_refl _, by simp [maxLen]⟩
  · exact ⟨_, cap, rfl, hc, hm⟩
section
variable {α : Type} {R : World → α → List Value → Prop} {k base : Nat} {e : TypeId} {w w' : World} {v : Value} {l : List α}
theorem OwnL.nil (w : World) (R : World → α → List Value → Prop) (k base : Nat) (e : TypeId) : OwnL R k base e w (.slice none 0 0) [] := ⟨[], World.ownsRow_nil .., rfl⟩
theorem OwnL.made (w : World) (R : World → α → List Value → Prop) (k base : Nat) (e : TypeId) (hb : base ≤ w.heap.size) : OwnL R k base e (w.alloc (.cells #[] e)) (.slice (some ⟨w.heap.size, 0, none⟩) 0 0) [] :=
  ⟨[], ⟨by simp, .inr ⟨w.heap.size, 0, #[], rfl, hb, heap_alloc_new w _, Nat.le_refl _, by simp [maxLen], by simp, by simp⟩⟩, rfl⟩
end
section
variable {α : Type} {R : World → α → List Value → Prop} {k : Nat} {w : World} {l : List α}
theorem RdList.none_nil {cap n : Nat} (h : RdList R k w (.slice none n cap) l) : l = [] := by
  obtain ⟨a, c, xs, hv, _, _, _, _, hx⟩ := h
  injection hv with e1 e2 e3
  subst e1
  cases l with
  | nil => rfl
  | cons x l => obtain ⟨b, off, e, _⟩ := hx (by simp); cases e
end
section
variable {α : Type} {R : World → α → List Value → Prop} {k base : Nat} {e : TypeId} {w w' : World} {v : Value} {l : List α}
theorem OwnL.slice (h : OwnL R k base e w v l) : ∃ a cap, v = .slice a l.length cap ∧ l.length ≤ cap ∧ cap ≤ maxLen := by
  obtain ⟨xs, ho, hr⟩ := h
  exact own_shape ho
theorem OwnL.gr (h : OwnL R k base e w v l) (hR : ∀ x cs, R w x cs → R w' x cs) (hg : Gr w w') : OwnL R k base e w' v l := by
  obtain ⟨xs, ho, hr⟩ := h
  exact ⟨xs, ho.kept (hg.grownBy none) (by cases v.ownBlock <;> simp), hr.map hR⟩
theorem OwnL.base_le {base' : Nat} (h : OwnL R k base e w v l) (hb : base' ≤ base) : OwnL R k base' e w v l := by
  obtain ⟨xs, ⟨h1, h2⟩, hr⟩ := h
  refine ⟨xs, ⟨h1, ?_⟩, hr⟩
  rcases h2 with h2 | ⟨g, cap, cur, e1, e2, rest⟩
  · exact .inl h2
  · exact .inr ⟨g, cap, cur, e1, by omega, rest⟩
theorem OwnL.rd (h : OwnL R k base e w v l) (hb : l.length ≤ 1099511627776) : RdList R k w v l := by
  obtain ⟨xs, ho, hr⟩ := h
  obtain ⟨a, cap, rfl, hc, hm⟩ := own_shape ho
  refine ⟨a, cap, xs, rfl, hc, hm, hb, hr, fun hn => ?_⟩
  obtain ⟨g, cap', hv, _, _⟩ := ho.form hn
  injection hv with e1 e2 e3
  refine ⟨g, 0, e1, fun j u hu => ?_⟩
  have := ho.cells (g := g) (by rw [e1]; rfl) j u hu
  rw [Nat.zero_add]
  unfold Addr.add at this
  split at this
  · rename_i h0; subst h0; exact this
  · simpa using this
end
/-- All blocks lie unturned but those from base on whose elements are of type e. -/
def Kt (base : Nat) (e : TypeId) (w w' : World) : Prop :=
  ∀ b, b < w.heap.size → (b < base ∨ ∀ c t f, w.heap[b]? = some (.cells c t f) → t ≠ e) → w'.heap[b]? = w.heap[b]?
theorem Kt.of_gr {base : Nat} {e : TypeId} {w w' : World} (h : Gr w w') : Kt base e w w' := fun _ hb _ => h.block hb
theorem Kt.of_own {base k n : Nat} {e : TypeId} {w w' : World} {v : Value} {xs : List Value} (h : w.ownsRow base e k v n xs) (hg : w.grownBy w' v.ownBlock) : Kt base e w w' := by
  intro b hb hc
  refine hg.block b hb ?_
  rcases h.2 with ⟨rfl, _⟩ | ⟨g, cap, cur, rfl, hbase, hh, _⟩
  · simp [Value.ownBlock]
  · simp only [Value.ownBlock, ne_eq, Option.some.injEq]
    rintro rfl
    rcases hc with hc | hc
    · omega
    · exact hc _ _ _ hh rfl
theorem OwnL.kt {α : Type} {R : World → α → List Value → Prop} {k base base' : Nat} {e e' : TypeId} {w w' : World} {v : Value} {l : List α} (h : OwnL R k base e w v l) (hR : ∀ x cs, R w x cs → R w' x cs) (hg : Kt base' e' w w') (hne : e ≠ e') : OwnL R k base e w' v l := by
  obtain ⟨xs, ⟨h1, h2⟩, hr⟩ := h
  refine ⟨xs, ⟨h1, ?_⟩, hr.map hR⟩
  rcases h2 with h2 | ⟨g, cap, cur, e1, e2, e3, rest⟩
  · exact .inl h2
  · refine .inr ⟨g, cap, cur, e1, e2, ?_, rest⟩
    rw [hg g (Array.getElem?_eq_some_iff.1 e3).1 (.inr fun c t f h => ?_), e3]
    rw [e3] at h
    injection h with h; injection h with _ h
    exact h ▸ hne
theorem OwnL.sl {α : Type} {R : World → α → List Value → Prop} {k base : Nat} {e : TypeId} {w : World} {v : Value} {l : List α} (h : OwnL R k base e w v l) : ∃ a n cap, v = .slice a n cap ∧ n ≤ cap ∧ cap ≤ 9223372036854775807 ∧ Hid (l.length = n) := by
  obtain ⟨a, cap, h1, h2, h3⟩ := h.slice
  exact ⟨a, _, cap, h1, h2, by unfold maxLen at h3; omega, Lib.hid rfl⟩
theorem RdList.sl {α : Type} {R : World → α → List Value → Prop} {k : Nat} {w : World} {v : Value} {l : List α} (h : RdList R k w v l) : ∃ a n cap, v = .slice a n cap ∧ n ≤ cap ∧ cap ≤ 9223372036854775807 ∧ n ≤ 1099511627776 ∧ Hid (l.length = n) := by
  obtain ⟨a, cap, h1, h2, h3, h4⟩ := h.slice
  exact ⟨a, _, cap, h1, h2, by unfold maxLen at h3; omega, h4, Lib.hid rfl⟩
/-- Block g is just these cells, of elements of type e, none frozen. -/
def Blk (w : World) (g : Nat) (e : TypeId) (cs : Array Value) : Prop := w.heap[g]? = some (.cells cs e (0, 0))
theorem Blk.lt {w : World} {g : Nat} {e : TypeId} {cs : Array Value} (h : Blk w g e cs) : g < w.heap.size := (Array.getElem?_eq_some_iff.1 h).1
theorem Blk.gr {w w' : World} {g : Nat} {e : TypeId} {cs : Array Value} (h : Blk w g e cs) (hg : Gr w w') : Blk w' g e cs := (hg.block h.lt).trans h
theorem Blk.cell {w : World} {g : Nat} {e : TypeId} {cs : Array Value} (h : Blk w g e cs) (o : Nat) : w.cell? ⟨g, o, none⟩ = cs[o]? := by
  unfold Blk at h; simp [World.cell?, h]
theorem Blk.frozen {w : World} {g : Nat} {e : TypeId} {cs : Array Value} (h : Blk w g e cs) (o : Nat) : w.frozen? ⟨g, o, none⟩ = false := by
  unfold Blk at h; simp [World.frozen?, h]
theorem Blk.new (w : World) (e : TypeId) (cs : Array Value) : Blk (w.alloc (.cells cs e)) w.heap.size e cs := heap_alloc_new w _
theorem Blk.alloc {w : World} {g : Nat} {e : TypeId} {cs : Array Value} (h : Blk w g e cs) (o : Obj) : Blk (w.alloc o) g e cs := (Below.heap_alloc w o g h.lt).trans h
theorem Blk.kt {base : Nat} {e e' : TypeId} {w w' : World} {g : Nat} {cs : Array Value} (h : Blk w g e cs) (k : Kt base e' w w') (hne : e ≠ e') : Blk w' g e cs :=
  (k g h.lt (.inr fun c t f hh => by rw [h] at hh; injection hh with hh; injection hh with _ hh; exact hh ▸ hne)).trans h
/-- Two blocks laid one behind the other. -/
theorem blk2 (w : World) (e1 : TypeId) (c1 : Array Value) (e2 : TypeId) (c2 : Array Value) :
    ∃ W, (w.alloc (.cells c1 e1)).alloc (.cells c2 e2) = W ∧ Blk W w.heap.size e1 c1 ∧ Blk W (w.heap.size + 1) e2 c2 ∧ Gr w W :=
  ⟨_, rfl, (Blk.new _ _ _).alloc _, by have := Blk.new (w.alloc (.cells c1 e1)) e2 c2; rwa [World.size_alloc] at this, ((Gr.refl w).alloc _).alloc _⟩
theorem Blk.set {w : World} {g : Nat} {e : TypeId} {cs : Array Value} (h : Blk w g e cs) (i : Nat) (v : Value) : Blk (w.setCell ⟨g, i, none⟩ v) g e (cs.setIfInBounds i v) := by
  unfold Blk at h ⊢
  simp [World.setCell, Array.getElem?_modify, h]
theorem Blk.far {w : World} {g : Nat} {e : TypeId} {cs : Array Value} (h : Blk w g e cs) {p : Addr} (hp : g ≠ p.block) (v : Value) : Blk (w.setCell p v) g e cs := (Below.heap_setCell w p v g hp).trans h
theorem OwnL.setCell {α : Type} {R : World → α → List Value → Prop} {k base : Nat} {e : TypeId} {w : World} {v : Value} {l : List α} (h : OwnL R k base e w v l) {a : Addr} (ha : a.block < base) (u : Value) (hR : ∀ x cs, R w x cs → R (w.setCell a u) x cs) : OwnL R k base e (w.setCell a u) v l := by
  obtain ⟨xs, ho, hr⟩ := h
  exact ⟨xs, ownsRow_setCell_below ho ha u, hr.map hR⟩
end Ve
/- How attributes and operations lie in memory; append onto a row of the call's own. -/
namespace Ve
open Go Go.RowKit Go.Proofs

/-- An attribute's cells. -/
def AttrR (_ : World) (x : Attr) (cs : List Value) : Prop := cs = [.string x.key, .int .i64 x.val.kind, .int .i64 x.val.num, .string x.val.text] ∧ szS x.key ∧ szS x.val.text
theorem AttrR.any {w w' : World} {x : Attr} {cs : List Value} (h : AttrR w x cs) : AttrR w' x cs := h
abbrev RdAttrs (w : World) (v : Value) (l : List Attr) : Prop := RdList AttrR 4 w v l
def OwnA (w : World) (v : Value) (l : List Attr) : Prop := OwnL AttrR 4 0 176 w v l ∧ l.length ≤ 1099511627776
theorem RdAttrs.gr {w w' : World} {v : Value} {l : List Attr} (h : RdAttrs w v l) (hg : Gr w w') : RdAttrs w' v l := RdList.gr (w := w) h (fun _ _ h => h) hg
theorem OwnA.gr {w w' : World} {v : Value} {l : List Attr} (h : OwnA w v l) (hg : Gr w w') : OwnA w' v l := ⟨OwnL.gr (w := w) h.1 (fun _ _ h => h) hg, h.2⟩
theorem OwnA.rd {w : World} {v : Value} {l : List Attr} (h : OwnA w v l) : RdAttrs w v l := h.1.rd h.2
/-- An operation's cells. -/
def OpR (w : World) (x : Op) (cs : List Value) : Prop :=
  ∃ v, cs = [.int .i64 x.kind, .string x.text, .int .i64 x.val.kind, .int .i64 x.val.num, .string x.val.text, .int .i64 x.count, v] ∧ RdAttrs w v x.attrs ∧ szS x.text ∧ szS x.val.text
theorem OpR.gr {w w' : World} {x : Op} {cs : List Value} (h : OpR w x cs) (hg : Gr w w') : OpR w' x cs := by
  obtain ⟨v, e, hr, hs⟩ := h
  exact ⟨v, e, RdAttrs.gr hr hg, hs⟩
abbrev RdOps (w : World) (v : Value) (l : List Op) : Prop := RdList OpR 7 w v l
theorem RdOps.gr {w w' : World} {v : Value} {l : List Op} (h : RdOps w v l) (hg : Gr w w') : RdOps w' v l := RdList.gr (w := w) h (fun _ _ h => h.gr hg) hg
/-- The cells of attribute number i. -/
theorem RdAttrs.at_ {w : World} {a : Option Addr} {n cap : Nat} {l : List Attr} (h : RdAttrs w (.slice a n cap) l) (i : Nat) (hi : i < n) :
    ∃ b off xk xa xb xt, l[i]? = some ⟨xk, ⟨xa, xb, xt⟩⟩ ∧ a = some ⟨b, off, none⟩ ∧ w.cell? ⟨b, off + i * 4, none⟩ = some (.string xk) ∧ w.cell? ⟨b, off + i * 4 + 1, none⟩ = some (.int .i64 xa) ∧
      w.cell? ⟨b, off + i * 4 + 2, none⟩ = some (.int .i64 xb) ∧ w.cell? ⟨b, off + i * 4 + 3, none⟩ = some (.string xt) ∧ szS xk ∧ szS xt := by
  obtain ⟨b, off, ⟨xk, ⟨xa, xb, xt⟩⟩, cs, e, hx, ⟨rfl, s1, s2⟩, _, hc⟩ := RdList.get h i hi
  exact ⟨b, off, xk, xa, xb, xt, hx, e, hc 0 _ (by omega) rfl, hc 1 _ (by omega) rfl, hc 2 _ (by omega) rfl, hc 3 _ (by omega) rfl, s1, s2⟩
/-- The cells of operation number i. -/
theorem RdOps.at_ {w : World} {a : Option Addr} {n cap : Nat} {l : List Op} (h : RdOps w (.slice a n cap) l) (i : Nat) (hi : i < n) :
    ∃ b off k t va vb vt c ats sl, l[i]? = some ⟨k, t, ⟨va, vb, vt⟩, c, ats⟩ ∧ a = some ⟨b, off, none⟩ ∧ RdAttrs w sl ats ∧ w.cell? ⟨b, off + i * 7, none⟩ = some (.int .i64 k) ∧ w.cell? ⟨b, off + i * 7 + 1, none⟩ = some (.string t) ∧
      w.cell? ⟨b, off + i * 7 + 2, none⟩ = some (.int .i64 va) ∧ w.cell? ⟨b, off + i * 7 + 3, none⟩ = some (.int .i64 vb) ∧ w.cell? ⟨b, off + i * 7 + 4, none⟩ = some (.string vt) ∧
      w.cell? ⟨b, off + i * 7 + 5, none⟩ = some (.int .i64 c) ∧ w.cell? ⟨b, off + i * 7 + 6, none⟩ = some sl ∧ szS t ∧ szS vt := by
  obtain ⟨b, off, ⟨k, t, ⟨va, vb, vt⟩, c, ats⟩, cs, e, hx, ⟨sl, rfl, hr, s1, s2⟩, _, hc⟩ := RdList.get h i hi
  exact ⟨b, off, k, t, va, vb, vt, c, ats, sl, hx, e, hr, hc 0 _ (by omega) rfl, hc 1 _ (by omega) rfl, hc 2 _ (by omega) rfl, hc 3 _ (by omega) rfl, hc 4 _ (by omega) rfl, hc 5 _ (by omega) rfl, hc 6 _ (by omega) rfl, s1, s2⟩
theorem AttrR.flat (w : World) (x : Attr) (cs : List Value) (h : AttrR w x cs) : ∀ u ∈ cs, u.oneCell' = true := by
  obtain ⟨rfl, _⟩ := h
  simp [Value.oneCell']
theorem OpR.flat (w : World) (x : Op) (cs : List Value) (h : OpR w x cs) : ∀ u ∈ cs, u.oneCell' = true := by
  obtain ⟨v, rfl, hr, _⟩ := h
  obtain ⟨a, cap, rfl, _⟩ := RdList.slice hr
  simp [Value.oneCell']

/-- A value of the interface. -/
@[irreducible] def valV (p : Plain) : Value :=
  if p.kind = 1 then .iface 239 (.bool (p.num == 1)) else if p.kind = 2 then .iface 240 (.int .i64 p.num)
  else if p.kind = 3 then .iface 241 (.string p.text) else .iface 243 (.agg #[])
theorem valV_form (p : Plain) : ∃ T y, valV p = .iface T y := by
  unfold valV
  split
  · exact ⟨_, _, rfl⟩
  · split
    · exact ⟨_, _, rfl⟩
    · split
      · exact ⟨_, _, rfl⟩
      · exact ⟨_, _, rfl⟩
/-- A piece as a value of the interface. -/
def PieceV (w : World) : Piece → Value → Prop
  | .ins l t n, v => ∃ sl, v = .iface 190 (.agg #[sl, .string t, .int .i64 n]) ∧ OwnA w sl l ∧ szS t
  | .emb l t x, v => ∃ sl, v = .iface 194 (.agg #[sl, .string t, valV x]) ∧ OwnA w sl l ∧ szS t ∧ szS x.text
  | .ret l n, v => ∃ sl, v = .iface 113 (.agg #[sl, .int .i64 n]) ∧ OwnA w sl l
  | .del n, v => v = .iface 118 (.agg #[.int .i64 n])
theorem PieceV.form {w : World} {p : Piece} {v : Value} (h : PieceV w p v) : ∃ T y, v = .iface T y := by
  cases p with
  | ins l t n => obtain ⟨sl, e, _⟩ := h; exact ⟨_, _, e⟩
  | emb l t x => obtain ⟨sl, e, _⟩ := h; exact ⟨_, _, e⟩
  | ret l n => obtain ⟨sl, e, _⟩ := h; exact ⟨_, _, e⟩
  | del n => exact ⟨_, _, h⟩
theorem PieceV.gr {w w' : World} {p : Piece} {v : Value} (h : PieceV w p v) (g : Gr w w') : PieceV w' p v := by
  cases p with
  | ins l t n => obtain ⟨sl, e, h, s⟩ := h; exact ⟨sl, e, h.gr g, s⟩
  | emb l t x => obtain ⟨sl, e, h, s⟩ := h; exact ⟨sl, e, h.gr g, s⟩
  | ret l n => obtain ⟨sl, e, h⟩ := h; exact ⟨sl, e, h.gr g⟩
  | del n => exact h
def PieceR (w : World) (p : Piece) (cs : List Value) : Prop := ∃ v, cs = [v] ∧ PieceV w p v
theorem PieceR.gr {w w' : World} {p : Piece} {cs : List Value} (h : PieceR w p cs) (g : Gr w w') : PieceR w' p cs := by
  obtain ⟨v, e, h⟩ := h; exact ⟨v, e, h.gr g⟩
theorem PieceR.flat (w : World) (x : Piece) (cs : List Value) (h : PieceR w x cs) : ∀ u ∈ cs, u.oneCell' = true := by
  obtain ⟨v, rfl, h⟩ := h
  cases x with
  | ins l t n => obtain ⟨sl, rfl, _⟩ := h; simp [Value.oneCell']
  | emb l t x => obtain ⟨sl, rfl, _⟩ := h; simp [Value.oneCell']
  | ret l n => obtain ⟨sl, rfl, _⟩ := h; simp [Value.oneCell']
  | del n => subst h; simp [Value.oneCell']
/-- The block in which a piece's attributes lie. -/
def ablk : Value → Option Nat
  | .iface _ (.agg cs) => ((cs[0]?).getD Value.nilIface).ownBlock
  | _ => none
/-- A piece with its value in memory. -/
def PieceB (w : World) (x : Piece × Value) (cs : List Value) : Prop := cs = [x.2] ∧ PieceV w x.1 x.2
theorem PieceB.gr {w w' : World} {x : Piece × Value} {cs : List Value} (h : PieceB w x cs) (g : Gr w w') : PieceB w' x cs := ⟨h.1, h.2.gr g⟩
theorem PieceB.r {w : World} {x : Piece × Value} {cs : List Value} (h : PieceB w x cs) : PieceR w x.1 cs := ⟨x.2, h.1, h.2⟩
theorem PieceB.flat (w : World) (x : Piece × Value) (cs : List Value) (h : PieceB w x cs) : ∀ u ∈ cs, u.oneCell' = true := PieceR.flat w x.1 cs h.r
abbrev RdPieces (w : World) (v : Value) (l : List Piece) : Prop := RdList PieceR 1 w v l
theorem RdPieces.gr {w w' : World} {v : Value} {l : List Piece} (h : RdPieces w v l) (hg : Gr w w') : RdPieces w' v l := RdList.gr (w := w) h (fun _ _ h => h.gr hg) hg
theorem OwnA.kt {base : Nat} {e : TypeId} {w w' : World} {v : Value} {l : List Attr} (h : OwnA w v l) (hg : Kt base e w w') (hne : 176 ≠ e) : OwnA w' v l := ⟨OwnL.kt (w := w) h.1 (fun _ _ h => h) hg hne, h.2⟩
theorem PieceV.kt {base : Nat} {e : TypeId} {w w' : World} {p : Piece} {v : Value} (h : PieceV w p v) (g : Kt base e w w') (hne : 176 ≠ e) : PieceV w' p v := by
  cases p with
  | ins l t n => obtain ⟨sl, e, h, s⟩ := h; exact ⟨sl, e, h.kt g hne, s⟩
  | emb l t x => obtain ⟨sl, e, h, s⟩ := h; exact ⟨sl, e, h.kt g hne, s⟩
  | ret l n => obtain ⟨sl, e, h⟩ := h; exact ⟨sl, e, h.kt g hne⟩
  | del n => exact h
theorem PieceR.kt {base : Nat} {e : TypeId} {w w' : World} {p : Piece} {cs : List Value} (h : PieceR w p cs) (g : Kt base e w w') (hne : 176 ≠ e) : PieceR w' p cs := by
  obtain ⟨v, e, h⟩ := h; exact ⟨v, e, h.kt g hne⟩
theorem OwnAL.setCell {base : Nat} {w : World} {v : Value} {l : List Attr} (h : OwnL AttrR 4 base 176 w v l) {a : Addr} (ha : a.block < base) (u : Value) : OwnL AttrR 4 base 176 (w.setCell a u) v l := OwnL.setCell h ha u (fun _ _ h => h.any)
/-! append. -/
theorem info_of {P : Program} {e : TypeId} {z : Value} {s b : Nat} (h : (P.info? e).map (fun i => (i.zero, i.size, i.bytes)) = some (some z, s, b)) : ∃ i, P.info? e = some i ∧ i.zero = some z ∧ i.size = s ∧ i.bytes = b := by
  obtain ⟨i, hi, h2⟩ := Option.map_eq_some_iff.1 h
  simp only [Prod.mk.injEq] at h2
  exact ⟨i, hi, h2.1, h2.2.1, h2.2.2⟩
/-- append(v, x...): v a row of the call's own, x nil, empty or not. -/
theorem run_app {P : Program} (w : World) (base : Nat) (t ty e : TypeId) (z : Value) (k bytes : Nat) (ht : P.underlying t = some (.slice e))
    (hi : (P.info? e).map (fun i => (i.zero, i.size, i.bytes)) = some (some z, k, bytes)) (hz : z.cells.size = k) (hk : 0 < k) (hby : bytes ≤ 128)
    (v : Value) (n : Nat) (xs : List Value) (hown : w.ownsRow base e k v n xs) (a : Option Addr) (m c : Nat) (news : List Value) (hl : news.length = m * k) (hx : CellsIn w a m news)
    (h1 : ∀ u ∈ news, u.oneCell' = true) (hm : n + m ≤ 1099511627776) (hb : base ≤ w.heap.size) :
    ∃ v' w', (Builtin.append_ #[t, t] ty #[v, .slice a m c]).run P w = .ok v' w' ∧ w'.ownsRow base e k v' (n + m) (xs ++ news) ∧ w.grownBy w' v.ownBlock ∧ (v'.ownBlock = v.ownBlock ∨ v'.ownBlock = some w.heap.size) := by
  obtain ⟨i, hi, hz1, hz2, hz3⟩ := info_of hi
  have h63 : n + m ≤ maxLen := by unfold maxLen; omega
  have hby' : (n + m) * bytes ≤ 140737488355328 := by
    have := Nat.mul_le_mul hm hby
    omega
  rcases Nat.eq_zero_or_pos m with h0 | h0
  · subst h0
    have hn : news = [] := List.eq_nil_of_length_eq_zero (by simpa using hl)
    subst hn
    cases a with
    | none =>
      refine ⟨v, w, ?_, by simpa using hown, World.grownBy.refl w _, .inl rfl⟩
      rcases hown.2 with ⟨rfl, rfl⟩ | ⟨g, cap, cur, rfl, _, _, hnc, _⟩
      · simp [Builtin.append_, run_underlying ht, Go.sizeOf, typeInfo, hi, Builtin.lenOf, Builtin.firstCells]
      · simp [Builtin.append_, run_underlying ht, Go.sizeOf, typeInfo, hi, Builtin.lenOf, Builtin.firstCells, hnc, storeCells]
    | some ad =>
      obtain ⟨v', w', hrun, h2, h3, _, h5⟩ := run_append_own_at (P := P) w base t ty e i z k bytes ht hi hz1 hz2 hz3 hz hk v n xs hown ad 0 c [] (by simp) (fun j u h => by simp at h) h1 h63 hby' hb
      exact ⟨v', w', hrun, h2, h3, h5⟩
  · obtain ⟨b, off, rfl, hc⟩ := hx h0
    obtain ⟨v', w', hrun, h2, h3, _, h5⟩ := run_append_own_at (P := P) w base t ty e i z k bytes ht hi hz1 hz2 hz3 hz hk v n xs hown ⟨b, off, none⟩ m c news hl
      (fun j u hu => by
        have := hc j u hu
        unfold Addr.add
        split
        · rename_i h; subst h; exact this
        · exact this) h1 h63 hby' hb
    exact ⟨v', w', hrun, h2, h3, h5⟩
/-- An append whose run is known. -/
theorem wpList_run {P : Program} {w w' : World} {ops : Array Oper} {rest : List Oper} {o : Oper} {a : Act} {Q : Exit → Act → World → Prop} (hgd : o.guard = none) (s x : Operand) (t : TypeId)
    (ho : o.op = .call { callee := .builtin .append, args := #[s, x], argTypes := #[t, t] }) {v vx v' : Value} (hs : a.eval s = v) (hx : a.eval x = vx)
    (hrun : (Builtin.append_ #[t, t] o.type #[v, vx]).run P w = .ok v' w') (h : wpList P ops Q rest (a.put o.dst v') w') : wpList P ops Q (o :: rest) a w :=
  wpList_plain hgd fun K hK => by
    unfold Oper.wp execOp
    simp only [ho, resolve, invoke, builtin, Sem.run_bind, Sem.run_pure, Result.andThen_ok, List.map_toArray, List.map_cons, List.map_nil, hs, hx, hrun]
    exact hK _ _ h
/-- The same, of lists. -/
theorem run_appL {α : Type} {R : World → α → List Value → Prop} {P : Program} (w : World) (base : Nat) (t ty e : TypeId) (z : Value) (k bytes : Nat) (ht : P.underlying t = some (.slice e))
    (hi : (P.info? e).map (fun i => (i.zero, i.size, i.bytes)) = some (some z, k, bytes)) (hz : z.cells.size = k) (hk : 0 < k) (hby : bytes ≤ 128)
    (hflat : ∀ x cs, R w x cs → ∀ u ∈ cs, u.oneCell' = true)
    {v x : Value} {l m : List α} (hown : OwnL R k base e w v l) (hx : RdList R k w x m) (hm : l.length + m.length ≤ 1099511627776) (hb : base ≤ w.heap.size)
    (hR : ∀ w' y cs, w.grownBy w' v.ownBlock → R w y cs → R w' y cs) :
    ∃ v' w', (Builtin.append_ #[t, t] ty #[v, x]).run P w = .ok v' w' ∧ OwnL R k base e w' v' (l ++ m) ∧ w.grownBy w' v.ownBlock ∧ (v'.ownBlock = v.ownBlock ∨ v'.ownBlock = some w.heap.size) := by
  obtain ⟨xs, ho, hr⟩ := hown
  obtain ⟨a, cap, ys, rfl, _, _, _, hr', hc⟩ := hx
  obtain ⟨v', w', h1, h2, h3, h4⟩ := run_app w base t ty e z k bytes ht hi hz hk hby v l.length xs ho a m.length cap ys hr'.len hc (hr'.all hflat) hm hb
  exact ⟨v', w', h1, ⟨xs ++ ys, by rw [List.length_append]; exact h2, (hr.app hr').map fun y cs => hR _ y cs h3⟩, h3, h4⟩
/-- append(v, x), x one element in a block of its own. -/
theorem run_push {α : Type} {R : World → α → List Value → Prop} {P : Program} (w : World) (base : Nat) (t ty e : TypeId) (z : Value) (k bytes : Nat) (ht : P.underlying t = some (.slice e))
    (hi : (P.info? e).map (fun i => (i.zero, i.size, i.bytes)) = some (some z, k, bytes)) (hz : z.cells.size = k) (hk : 0 < k) (hby : bytes ≤ 128)
    (hflat : ∀ w x cs, R w x cs → ∀ u ∈ cs, u.oneCell' = true) (hst : ∀ w1 w2 y cs, Kt base e w1 w2 → R w1 y cs → R w2 y cs)
    {v : Value} {l : List α} {x : α} {cs : List Value} (hown : OwnL R k base e w v l) (hx : R w x cs) (hcs : cs.length = k) (hm : l.length + 1 ≤ 1099511627776) (hb : base ≤ w.heap.size) :
    ∃ v' w', (Builtin.append_ #[t, t] ty #[v, .slice (some ⟨w.heap.size, 0, none⟩) 1 1]).run P (w.alloc (.cells cs.toArray e)) = .ok v' w' ∧ OwnL R k base e w' v' (l ++ [x]) ∧
      (w.alloc (.cells cs.toArray e)).grownBy w' v.ownBlock ∧ Kt base e w w' ∧ w.heap.size < w'.heap.size ∧ (∀ b, v.ownBlock = some b → base ≤ b) ∧ (∀ b, v'.ownBlock = some b → v.ownBlock = some b ∨ w.heap.size ≤ b) := by
  obtain ⟨xs, ho, hr⟩ := hown
  have ho' : (w.alloc (.cells cs.toArray e)).ownsRow base e k v l.length xs := ho.alloc _
  have hc : CellsIn (w.alloc (.cells cs.toArray e)) (some ⟨w.heap.size, 0, none⟩) 1 cs := fun _ => ⟨_, _, rfl, fun j u hu => by simpa using hu⟩
  obtain ⟨v', w', h1, h2, h3, h4⟩ := run_app (w.alloc (.cells cs.toArray e)) base t ty e z k bytes ht hi hz hk hby v l.length xs ho' _ 1 1 cs (by omega) hc (hflat w x cs hx) hm (by simp; omega)
  have hkt : Kt base e w w' := fun b hlt hc' => by
    rw [Kt.of_own ho' h3 b (by simp; omega) (by rw [Below.heap_alloc w _ b hlt]; exact hc'), Below.heap_alloc w _ b hlt]
  refine ⟨v', w', h1, ⟨xs ++ cs, by rw [List.length_append]; exact h2, (hr.map fun y c => hst _ _ y c hkt).app (RowsR.one hcs (hst _ _ x cs hkt hx))⟩, h3, hkt, ?_, fun b hb' => (ho.lt b hb').1, fun b hb' => ?_⟩
  rotate_left 1
  · rcases h4 with h4 | h4
    · exact .inl (h4 ▸ hb')
    · rw [h4] at hb'; injection hb' with hb'; subst hb'; exact .inr (by simp)
  have := h3.size
  simp at this
  omega
/-- What a row of the call's own has grown by, seen from the call's beginning. -/
theorem Gr.push {a w w' : World} {o : Obj} {row : Option Nat} (h : Gr a w) (hg : (w.alloc o).grownBy w' row) (hr : ∀ b, row = some b → a.heap.size ≤ b) : Gr a w' := (h.alloc o).grown hg hr
theorem info_piece : (Tryz.prog.info? 109).map (fun i => (i.zero, i.size, i.bytes)) = some (some .nilIface, 1, 16) := by kernel_rfl
theorem push_piece (w : World) (base : Nat) (ty : TypeId) {v : Value} {l : List Piece} {p : Piece} {pv : Value} (hown : OwnL PieceR 1 base 109 w v l) (hx : PieceV w p pv) (hm : l.length + 1 ≤ 1099511627776) (hb : base ≤ w.heap.size) :
    ∃ v' w', (Builtin.append_ #[95, 95] ty #[v, .slice (some ⟨w.heap.size, 0, none⟩) 1 1]).run Tryz.prog (w.alloc (.cells #[pv] 109)) = .ok v' w' ∧ OwnL PieceR 1 base 109 w' v' (l ++ [p]) ∧
      (w.alloc (.cells #[pv] 109)).grownBy w' v.ownBlock ∧ Kt base 109 w w' ∧ w.heap.size < w'.heap.size ∧ (∀ b, v.ownBlock = some b → base ≤ b) ∧ (∀ b, v'.ownBlock = some b → v.ownBlock = some b ∨ w.heap.size ≤ b) :=
  run_push w base _ ty _ _ 1 16 Tryz.underlying95 info_piece rfl (by omega) (by omega) PieceR.flat (fun _ _ _ _ k h => PieceR.kt h k (by decide)) hown ⟨pv, rfl, hx⟩ rfl hm hb
theorem push_pieceB (w : World) (base : Nat) (ty : TypeId) {v : Value} {l : List (Piece × Value)} {x : Piece × Value} (hown : OwnL PieceB 1 base 109 w v l) (hx : PieceV w x.1 x.2) (hm : l.length + 1 ≤ 1099511627776) (hb : base ≤ w.heap.size) :
    ∃ v' w', (Builtin.append_ #[95, 95] ty #[v, .slice (some ⟨w.heap.size, 0, none⟩) 1 1]).run Tryz.prog (w.alloc (.cells #[x.2] 109)) = .ok v' w' ∧ OwnL PieceB 1 base 109 w' v' (l ++ [x]) ∧
      (w.alloc (.cells #[x.2] 109)).grownBy w' v.ownBlock ∧ Kt base 109 w w' ∧ w.heap.size < w'.heap.size ∧ (∀ b, v.ownBlock = some b → base ≤ b) ∧ (∀ b, v'.ownBlock = some b → v.ownBlock = some b ∨ w.heap.size ≤ b) :=
  run_push w base _ ty _ _ 1 16 Tryz.underlying95 info_piece rfl (by omega) (by omega) PieceB.flat (fun _ _ _ _ k h => ⟨h.1, PieceV.kt h.2 k (by decide)⟩) hown ⟨rfl, hx⟩ rfl hm hb
theorem own_lo {α : Type} {R : World → α → List Value → Prop} {k base : Nat} {e : TypeId} {w : World} {v : Value} {l : List α} (h : OwnL R k base e w v l) : ∀ b, v.ownBlock = some b → base ≤ b := by
  obtain ⟨xs, ho, -⟩ := h
  exact fun b hb => (ho.lt b hb).1
theorem PieceV.alt {w : World} {p : Piece} {v : Value} (h : PieceV w p v) : ∀ b, ablk v = some b → b < w.heap.size := by
  have key : ∀ {sl : Value} {l : List Attr}, OwnA w sl l → ∀ b, sl.ownBlock = some b → b < w.heap.size := fun h b hb => by
    obtain ⟨xs, ho, -⟩ := h.1
    exact (ho.lt b hb).2
  intro b hb
  cases p with
  | ins l t n => obtain ⟨sl, rfl, h, s⟩ := h; exact key h b (by simpa [ablk] using hb)
  | emb l t x => obtain ⟨sl, rfl, h, s⟩ := h; exact key h b (by simpa [ablk] using hb)
  | ret l n => obtain ⟨sl, rfl, h⟩ := h; exact key h b (by simpa [ablk] using hb)
  | del n => subst h; simp [ablk, Value.ownBlock] at hb
/-- The pieces' attributes lie in blocks of their own, from base on. -/
def ApartV (base : Nat) (vs : List Value) : Prop := (∀ v ∈ vs, ∀ b, ablk v = some b → base ≤ b) ∧ vs.Pairwise (fun u v => ∀ b, ablk u = some b → ablk v ≠ some b)
theorem ApartV.nil (base : Nat) : ApartV base [] := ⟨fun _ h => (by cases h), .nil⟩
theorem ApartV.push {base m : Nat} {vs : List Value} {v : Value} (h : ApartV base vs) (hm : ∀ u ∈ vs, ∀ b, ablk u = some b → b < m) (hv : ∀ b, ablk v = some b → m ≤ b) (hb : base ≤ m) : ApartV base (vs ++ [v]) := by
  refine ⟨fun u hu b he => ?_, List.pairwise_append.2 ⟨h.2, .cons (fun _ h => by cases h) .nil, fun a ha c hc b he hne => ?_⟩⟩
  · rcases List.mem_append.1 hu with hu | hu
    · exact h.1 u hu b he
    · obtain rfl := List.mem_singleton.1 hu; exact Nat.le_trans hb (hv b he)
  · obtain rfl := List.mem_singleton.1 hc
    have := hm a ha b he
    have := hv b hne
    omega
theorem OwnB.alt {base : Nat} {w : World} {v : Value} {pl : List (Piece × Value)} (h : OwnL PieceB 1 base 109 w v pl) : ∀ u ∈ pl.map (·.2), ∀ b, ablk u = some b → b < w.heap.size := by
  obtain ⟨xs, -, hr⟩ := h
  intro u hu b hb
  obtain ⟨x, hx, rfl⟩ := List.mem_map.1 hu
  obtain ⟨cs, hc⟩ := hr.mem x hx
  exact hc.2.alt b hb
end Ve
/- Worlds in which blocks of certain types of the call's own are written; the builder and deltas in memory. -/
namespace Ve
open Go Go.RowKit Go.Proofs

/-- All that lay in w lies unturned in w', but blocks of S whose elements are of a type of E. -/
structure Kg (S : Nat → Prop) (E : TypeId → Bool) (w w' : World) : Prop where
  os : w'.os = w.os
  tape : w'.tape = w.tape
  output : w'.output = w.output
  size : w.heap.size ≤ w'.heap.size
  blk : ∀ b, b < w.heap.size → (¬ S b ∨ ∀ c t f, w.heap[b]? = some (.cells c t f) → E t = false) → w'.heap[b]? = w.heap[b]?
/-- The blocks from base on. -/
abbrev Fr (base : Nat) : Nat → Prop := fun b => base ≤ b
section
variable {base : Nat} {S : Nat → Prop} {E : TypeId → Bool} {a w w' w'' : World}
theorem Kg.of_gr (h : Gr w w') : Kg S E w w' := ⟨h.os, h.tape, h.output, h.size, fun b hb _ => h.block hb⟩
theorem Kg.refl (w : World) : Kg S E w w := Kg.of_gr (Gr.refl w)
theorem Kg.trans (h : Kg S E a w) (k : Kg S E w w') : Kg S E a w' :=
  ⟨k.os.trans h.os, k.tape.trans h.tape, k.output.trans h.output, Nat.le_trans h.size k.size, fun b hb hc => by
    have e := h.blk b hb hc
    exact (k.blk b (Nat.lt_of_lt_of_le hb h.size) (hc.imp id fun hc c t f hh => hc c t f (e ▸ hh))).trans e⟩
theorem Kg.trans_gr (h : Kg S E a w) (k : Gr w w') : Kg S E a w' := h.trans (Kg.of_gr k)
theorem Kg.alloc (h : Kg S E a w) (o : Obj) : Kg S E a (w.alloc o) := h.trans_gr ((Gr.refl w).alloc o)
theorem Kg.drew (h : Kg S E a w) : Kg S E a w.drew := h.trans_gr (Gr.refl w).drew
theorem Kg.drewN (h : Kg S E a w) (n : Nat) : Kg S E a (w.drewN n) := h.trans_gr ((Gr.refl w).drewN n)
theorem Kg.setCell (h : Kg S E a w) {g : Nat} {e : TypeId} {cs : Array Value} (hB : Blk w g e cs) (hE : E e = true) (hb : S g) (i : Nat) (v : Value) : Kg S E a (w.setCell ⟨g, i, none⟩ v) :=
  h.trans ⟨rfl, rfl, rfl, by simp [World.setCell], fun b hlt hc => Below.heap_setCell _ _ _ _ fun e' => by
    subst e'
    rcases hc with hc | hc
    · exact hc hb
    · exact absurd (hc _ _ _ hB) (by simp [hE])⟩
theorem Kg.setNew (h : Kg S E a w) {p : Addr} (hp : a.heap.size ≤ p.block) (v : Value) : Kg S E a (w.setCell p v) :=
  ⟨h.os, h.tape, h.output, by have := h.size; simpa [World.setCell] using this, fun b hb hc => (Below.heap_setCell w p v b (by omega)).trans (h.blk b hb hc)⟩
theorem Kg.sub {S' : Nat → Prop} (h : Kg S E w w') (hs : ∀ b, S b → S' b) : Kg S' E w w' :=
  ⟨h.os, h.tape, h.output, h.size, fun b hlt hc => h.blk b hlt (hc.imp (fun h hb => h (hs b hb)) id)⟩
theorem Kg.mono {E' : TypeId → Bool} (h : Kg S E w w') (hE : ∀ t, E t = true → E' t = true) : Kg S E' w w' :=
  ⟨h.os, h.tape, h.output, h.size, fun b hlt hc => h.blk b hlt (hc.imp id fun hc c t f hh => by
    have := hc c t f hh
    cases he : E t with
    | false => rfl
    | true => rw [hE t he] at this; cases this)⟩
theorem Gr.kgs (h : Gr a w) (k : Kg S E w w') (hb : ∀ b, S b → a.heap.size ≤ b) : Gr a w' :=
  Below.trans h ⟨k.os, k.tape, k.output, k.size, fun i hi => k.blk i (Nat.lt_of_lt_of_le hi h.size) (.inl fun hs => by have := hb i hs; omega)⟩
theorem Gr.kg (h : Gr a w) (k : Kg (Fr base) E w w') (hb : a.heap.size ≤ base) : Gr a w' := h.kgs k fun _ h => Nat.le_trans hb h
theorem Kg.below (k : Kg (Fr base) E w w') (hb : w.heap.size ≤ base) : Gr w w' := (Gr.refl w).kg k hb
theorem Blk.kg {g : Nat} {e : TypeId} {cs : Array Value} (h : Blk w g e cs) (k : Kg S E w w') (hne : E e = false) : Blk w' g e cs :=
  (k.blk g h.lt (.inr fun c t f hh => by rw [h] at hh; injection hh with hh; injection hh with _ hh; exact hh ▸ hne)).trans h
theorem Kg.of_own {k n : Nat} {e : TypeId} {v : Value} {xs : List Value} (h : w.ownsRow base e k v n xs) (hE : E e = true) (hS : ∀ b, v.ownBlock = some b → S b) (hg : w.grownBy w' v.ownBlock) : Kg S E w w' := by
  refine ⟨hg.os, hg.tape, hg.output, hg.size, fun b hb hc => hg.block b hb ?_⟩
  rcases h.2 with ⟨rfl, _⟩ | ⟨g, cap, cur, rfl, hbase, hh, _⟩
  · simp [Value.ownBlock]
  · simp only [Value.ownBlock, ne_eq, Option.some.injEq] at hS ⊢
    rintro rfl
    rcases hc with hc | hc
    · exact hc (hS _ rfl)
    · rw [hc _ _ _ hh] at hE; cases hE
theorem own_fr {k n : Nat} {e : TypeId} {v : Value} {xs : List Value} (h : w.ownsRow base e k v n xs) : ∀ b, v.ownBlock = some b → Fr base b := fun b hb => (h.lt b hb).1
theorem Kg.of_own_alloc {k n : Nat} {e : TypeId} {v : Value} {xs : List Value} {o : Obj} (h : w.ownsRow base e k v n xs) (hE : E e = true) (hS : ∀ b, v.ownBlock = some b → S b) (hg : (w.alloc o).grownBy w' v.ownBlock) : Kg S E w w' :=
  ((Kg.refl w).alloc o).trans (Kg.of_own (h.alloc o) hE hS hg)
theorem OwnL.kg {α : Type} {R : World → α → List Value → Prop} {k base : Nat} {S : Nat → Prop} {e : TypeId} {E : TypeId → Bool} {w w' : World} {v : Value} {l : List α} (h : OwnL R k base e w v l) (hR : ∀ x cs, R w x cs → R w' x cs) (hg : Kg S E w w') (hne : E e = false) : OwnL R k base e w' v l := by
  obtain ⟨xs, ⟨h1, h2⟩, hr⟩ := h
  refine ⟨xs, ⟨h1, ?_⟩, hr.map hR⟩
  rcases h2 with h2 | ⟨g, cap, cur, e1, e2, e3, rest⟩
  · exact .inl h2
  · refine .inr ⟨g, cap, cur, e1, e2, ?_, rest⟩
    rw [hg.blk g (Array.getElem?_eq_some_iff.1 e3).1 (.inr fun c t f h => ?_), e3]
    rw [e3] at h
    injection h with h; injection h with _ h
    exact h ▸ hne
theorem OwnA.kg {v : Value} {l : List Attr} (h : OwnA w v l) (hg : Kg S E w w') (hne : E 176 = false) : OwnA w' v l := ⟨OwnL.kg (w := w) h.1 (fun _ _ h => h.any) hg hne, h.2⟩
theorem PieceV.kg {p : Piece} {v : Value} (h : PieceV w p v) (g : Kg S E w w') (hne : E 176 = false) : PieceV w' p v := by
  cases p with
  | ins l t n => obtain ⟨sl, e, h, s⟩ := h; exact ⟨sl, e, h.kg g hne, s⟩
  | emb l t x => obtain ⟨sl, e, h, s⟩ := h; exact ⟨sl, e, h.kg g hne, s⟩
  | ret l n => obtain ⟨sl, e, h⟩ := h; exact ⟨sl, e, h.kg g hne⟩
  | del n => exact h
theorem PieceR.kg {p : Piece} {cs : List Value} (h : PieceR w p cs) (g : Kg S E w w') (hne : E 176 = false) : PieceR w' p cs := by
  obtain ⟨v, e, h⟩ := h; exact ⟨v, e, h.kg g hne⟩
end
/-- The piece number i. -/
theorem OwnP.at_ {base : Nat} {w : World} {a : Option Addr} {n cap : Nat} {l : List Piece} (h : OwnL PieceR 1 base 109 w (.slice a n cap) l) (i : Nat) (hi : i < n) :
    ∃ g p v, l[i]? = some p ∧ a = some ⟨g, 0, none⟩ ∧ base ≤ g ∧ w.cell? ⟨g, i, none⟩ = some v ∧ w.frozen? ⟨g, i, none⟩ = false ∧ PieceV w p v := by
  obtain ⟨xs, ho, hr⟩ := h
  have hl : l.length = n := by
    obtain ⟨a', cap', e, _⟩ := own_shape ho
    injection e with _ e _; exact e.symm
  obtain ⟨p, cs, hp, ⟨v, rfl, hv⟩, _, hc⟩ := hr.get i (by omega)
  rcases ho.2 with ⟨e, h0⟩ | ⟨g, cap', cur, e, hb, hh, _, _, _, ht⟩
  · omega
  · injection e with e1 e2 e3
    subst e1
    have h2 := hc 0 (by omega)
    rw [← ht, List.getElem?_take, if_pos (by omega)] at h2
    simp at h2
    exact ⟨g, p, v, hp, rfl, hb, by simp [World.cell?, hh, h2], by simp [World.frozen?, hh], hv⟩
theorem RowsR.set {α : Type} {R : World → α → List Value → Prop} {w : World} {l : List α} {xs : List Value} (h : RowsR R 1 w l xs) (i : Nat) (x : α) (v : Value) (hx : R w x [v]) : RowsR R 1 w (l.set i x) (xs.set i v) := by
  induction l generalizing xs i with
  | nil => unfold RowsR at h; subst h; simp [RowsR]
  | cons y l ih =>
    obtain ⟨cs, rest, rfl, hk, hy, hr⟩ := h
    match cs, hk with
    | [c], _ =>
      cases i with
      | zero => exact ⟨[v], rest, rfl, rfl, hx, hr⟩
      | succ i => exact ⟨[c], rest.set i v, rfl, rfl, hy, ih hr i⟩
/-- Piece number i is put anew. -/
theorem OwnP.put {base : Nat} {w : World} {n cap g : Nat} {l : List Piece} (h : OwnL PieceR 1 base 109 w (.slice (some ⟨g, 0, none⟩) n cap) l) (i : Nat) (p : Piece) (v : Value) (hv : PieceV w p v) {S : Nat → Prop} (hS : S g) :
    OwnL PieceR 1 base 109 (w.setCell ⟨g, i, none⟩ v) (.slice (some ⟨g, 0, none⟩) n cap) (l.set i p) ∧ Kg S (· == 109) w (w.setCell ⟨g, i, none⟩ v) := by
  obtain ⟨xs, ho, hr⟩ := h
  have hl : l.length = n := by
    obtain ⟨a', cap', e, _⟩ := own_shape ho
    injection e with _ e _; exact e.symm
  subst hl
  obtain ⟨h1, h2⟩ := ho.stored i v
  have hk : Kg S (· == 109) w (w.setCell ⟨g, i, none⟩ v) := Kg.of_own ho (by decide) (fun b hb => by simp [Value.ownBlock] at hb; subst hb; exact hS) (by simpa [Value.ownBlock] using h2)
  exact ⟨⟨xs.set i v, by rw [List.length_set]; exact h1, (hr.set i p v ⟨v, rfl, hv⟩).map fun _ _ h => h.kg hk (by decide)⟩, hk⟩
theorem OwnP.pop {base : Nat} {w : World} {n cap g : Nat} {l : List Piece} (h : OwnL PieceR 1 base 109 w (.slice (some ⟨g, 0, none⟩) (n + 1) cap) l) :
    OwnL PieceR 1 base 109 w (.slice (some ⟨g, 0, none⟩) n cap) l.dropLast := by
  obtain ⟨xs, ho, hr⟩ := h
  have hl : l.length = n + 1 := by
    obtain ⟨a', cap', e, _⟩ := own_shape ho
    injection e with _ e _; exact e.symm
  have hne : l ≠ [] := by rintro rfl; simp at hl
  obtain ⟨m, x, rfl⟩ : ∃ m x, l = m ++ [x] := ⟨l.dropLast, l.getLast hne, (List.dropLast_concat_getLast hne).symm⟩
  have hm : m.length = n := by simpa using hl
  rw [List.dropLast_concat]
  have : ∃ ys zs, xs = ys ++ zs ∧ RowsR PieceR 1 w m ys := by
    clear ho hl hne hm
    induction m generalizing xs with
    | nil => exact ⟨[], xs, rfl, rfl⟩
    | cons y m ih =>
      obtain ⟨cs, rest, rfl, hk, hy, hr⟩ := hr
      obtain ⟨ys, zs, rfl, hr'⟩ := ih _ hr
      exact ⟨cs ++ ys, zs, by simp, cs, ys, rfl, hk, hy, hr'⟩
  obtain ⟨ys, zs, rfl, hr'⟩ := this
  have hy := hr'.len
  rw [hl] at ho
  refine ⟨ys, ?_, hr'⟩
  rw [hm]
  exact ownsRow_pop (by rw [hy, hm]) ho

theorem Blk.drew {w : World} {g : Nat} {e : TypeId} {cs : Array Value} (h : Blk w g e cs) : Blk w.drew g e cs := h
theorem Blk.drewN {w : World} {g : Nat} {e : TypeId} {cs : Array Value} (h : Blk w g e cs) (n : Nat) : Blk (w.drewN n) g e cs := h.gr ((Gr.refl w).drewN n)
theorem Blk.cast {w : World} {g : Nat} {e : TypeId} {cs cs' : Array Value} (h : Blk w g e cs) (hc : cs = cs') : Blk w g e cs' := hc ▸ h
/-- Block g is one of elements of type e, none frozen. -/
def BT (w : World) (g : Nat) (e : TypeId) : Prop := ∃ cs, Blk w g e cs
section
variable {w w' : World} {g : Nat} {e : TypeId}
theorem Blk.bt {cs : Array Value} (h : Blk w g e cs) : BT w g e := ⟨cs, h⟩
theorem BT.set (h : BT w g e) (i : Nat) (v : Value) : BT (w.setCell ⟨g, i, none⟩ v) g e := by obtain ⟨cs, h⟩ := h; exact ⟨_, h.set i v⟩
theorem BT.far (h : BT w g e) {p : Addr} (hp : g ≠ p.block) (v : Value) : BT (w.setCell p v) g e := by obtain ⟨cs, h⟩ := h; exact ⟨_, h.far hp v⟩
theorem BT.alloc (h : BT w g e) (o : Obj) : BT (w.alloc o) g e := by obtain ⟨cs, h⟩ := h; exact ⟨_, h.alloc o⟩
theorem BT.drew (h : BT w g e) : BT w.drew g e := h
theorem BT.drewN (h : BT w g e) (n : Nat) : BT (w.drewN n) g e := by obtain ⟨cs, h⟩ := h; exact ⟨_, h.drewN n⟩
theorem BT.gr (h : BT w g e) (k : Gr w w') : BT w' g e := by obtain ⟨cs, h⟩ := h; exact ⟨_, h.gr k⟩
theorem Kg.setB {S : Nat → Prop} {E : TypeId → Bool} {a : World} (h : Kg S E a w) (hB : BT w g e) (hE : E e = true) (hb : S g) (i : Nat) (v : Value) : Kg S E a (w.setCell ⟨g, i, none⟩ v) := by
  obtain ⟨cs, hB⟩ := hB
  exact h.setCell hB hE hb i v
end
/-- A delta. -/
def DeltaR (w : World) (v : Value) (l : List Piece) : Prop := ∃ g sl, v = .pointer (some ⟨g, 0, none⟩) ∧ Blk w g 97 #[sl] ∧ RdPieces w sl l
theorem DeltaR.gr {w w' : World} {v : Value} {l : List Piece} (h : DeltaR w v l) (g : Gr w w') : DeltaR w' v l := by
  obtain ⟨b, sl, e, hb, hr⟩ := h
  exact ⟨b, sl, e, hb.gr g, RdPieces.gr hr g⟩
def bT (t : TypeId) : Bool := t == 153
/-- Blocks that a builder writes. -/
def bldT (t : TypeId) : Bool := t == 109 || t == 153
/-- A row of pieces of the call's own, its block one of S. -/
def OwnF (S : Nat → Prop) (w : World) (v : Value) (l : List Piece) : Prop := OwnL PieceR 1 0 109 w v l ∧ ∀ b, v.ownBlock = some b → S b
theorem OwnF.of_own {base : Nat} {w : World} {v : Value} {l : List Piece} (h : OwnL PieceR 1 base 109 w v l) : OwnF (Fr base) w v l := by
  obtain ⟨xs, ho, hr⟩ := h
  exact ⟨OwnL.base_le ⟨xs, ho, hr⟩ (Nat.zero_le _), own_fr ho⟩
theorem OwnF.own {base : Nat} {w : World} {v : Value} {l : List Piece} (h : OwnF (Fr base) w v l) : OwnL PieceR 1 base 109 w v l := by
  obtain ⟨⟨xs, ⟨h1, h2⟩, hr⟩, hS⟩ := h
  refine ⟨xs, ⟨h1, ?_⟩, hr⟩
  rcases h2 with h2 | ⟨g, cap, cur, e1, e2, rest⟩
  · exact .inl h2
  · subst e1
    exact .inr ⟨g, cap, cur, rfl, hS g rfl, rest⟩
section
variable {S : Nat → Prop} {E : TypeId → Bool} {w w' : World} {v : Value} {l : List Piece}
theorem OwnF.gr (h : OwnF S w v l) (hg : Gr w w') : OwnF S w' v l := ⟨OwnL.gr (w := w) h.1 (fun _ _ h => h.gr hg) hg, h.2⟩
theorem OwnF.kg {S' : Nat → Prop} (h : OwnF S w v l) (hg : Kg S' E w w') (h1 : E 176 = false) (h2 : E 109 = false) : OwnF S w' v l := ⟨OwnL.kg (w := w) h.1 (fun _ _ h => h.kg hg h1) hg h2, h.2⟩
theorem OwnF.sl (h : OwnF S w v l) : ∃ a n cap, v = .slice a n cap ∧ n ≤ cap ∧ cap ≤ 9223372036854775807 ∧ Hid (l.length = n) := h.1.sl
theorem OwnF.sub {S' : Nat → Prop} (h : OwnF S w v l) (hs : ∀ b, S b → S' b) : OwnF S' w v l := ⟨h.1, fun b hb => hs b (h.2 b hb)⟩
theorem OwnF.nil (S : Nat → Prop) (w : World) : OwnF S w (.slice none 0 0) [] := ⟨OwnL.nil .., fun b hb => by simp [Value.ownBlock] at hb⟩
end
def BldF (S : Nat → Prop) (w : World) (g : Nat) (s : Bld) : Prop :=
  S g ∧ ∃ sl, Blk w g 153 #[.int .i64 s.base, .int .i64 s.result, sl, .int .i64 s.gone] ∧ OwnF S w sl s.pieces
abbrev BldR (base : Nat) (w : World) (g : Nat) (s : Bld) : Prop := BldF (Fr base) w g s
theorem BldF.gr {S : Nat → Prop} {w w' : World} {g : Nat} {s : Bld} (h : BldF S w g s) (k : Gr w w') : BldF S w' g s := by
  obtain ⟨hb, sl, hB, ho⟩ := h
  exact ⟨hb, sl, hB.gr k, ho.gr k⟩
theorem BldF.sub {S S' : Nat → Prop} {w : World} {g : Nat} {s : Bld} (h : BldF S w g s) (hs : ∀ b, S b → S' b) : BldF S' w g s := by
  obtain ⟨hb, sl, hB, ho⟩ := h
  exact ⟨hs g hb, sl, hB, ho.sub hs⟩
theorem BldR.gr {base : Nat} {w w' : World} {g : Nat} {s : Bld} (h : BldR base w g s) (k : Gr w w') : BldR base w' g s := BldF.gr h k

/-- An operation's cells, its attributes in a block of their own. -/
def OpO (w : World) (x : Op) (cs : List Value) : Prop :=
  ∃ v, cs = [.int .i64 x.kind, .string x.text, .int .i64 x.val.kind, .int .i64 x.val.num, .string x.val.text, .int .i64 x.count, v] ∧ OwnA w v x.attrs ∧ szS x.text ∧ szS x.val.text
theorem OpO.gr {w w' : World} {x : Op} {cs : List Value} (h : OpO w x cs) (hg : Gr w w') : OpO w' x cs := by
  obtain ⟨v, e, hr, hs⟩ := h
  exact ⟨v, e, hr.gr hg, hs⟩
theorem OpO.kt {base : Nat} {e : TypeId} {w w' : World} {x : Op} {cs : List Value} (h : OpO w x cs) (hg : Kt base e w w') (hne : 176 ≠ e) : OpO w' x cs := by
  obtain ⟨v, e, hr, hs⟩ := h
  exact ⟨v, e, hr.kt hg hne, hs⟩
theorem OpO.kg {S : Nat → Prop} {E : TypeId → Bool} {w w' : World} {x : Op} {cs : List Value} (h : OpO w x cs) (hg : Kg S E w w') (hne : E 176 = false) : OpO w' x cs := by
  obtain ⟨v, e, hr, hs⟩ := h
  exact ⟨v, e, hr.kg hg hne, hs⟩
theorem OpO.opR {w : World} {x : Op} {cs : List Value} (h : OpO w x cs) : OpR w x cs := by
  obtain ⟨v, e, hr, hs⟩ := h
  exact ⟨v, e, hr.rd, hs⟩
theorem OpO.flat (w : World) (x : Op) (cs : List Value) (h : OpO w x cs) : ∀ u ∈ cs, u.oneCell' = true := OpR.flat w x cs h.opR
abbrev OwnOps (base : Nat) (w : World) (v : Value) (l : List Op) : Prop := OwnL OpO 7 base 65 w v l
theorem OwnOps.gr {base : Nat} {w w' : World} {v : Value} {l : List Op} (h : OwnOps base w v l) (hg : Gr w w') : OwnOps base w' v l := OwnL.gr (w := w) h (fun _ _ h => h.gr hg) hg
theorem OwnOps.kg {base : Nat} {S : Nat → Prop} {E : TypeId → Bool} {w w' : World} {v : Value} {l : List Op} (h : OwnOps base w v l) (hg : Kg S E w w') (h1 : E 176 = false) (h2 : E 65 = false) : OwnOps base w' v l := OwnL.kg (w := w) h (fun _ _ h => h.kg hg h1) hg h2
theorem RdList.weak {α : Type} {R R' : World → α → List Value → Prop} {k : Nat} {w : World} {v : Value} {l : List α} (h : RdList R k w v l) (hR : ∀ x cs, R w x cs → R' w x cs) : RdList R' k w v l := by
  obtain ⟨a, cap, xs, hv, hc, hm, hb, hr, hx⟩ := h
  refine ⟨a, cap, xs, hv, hc, hm, hb, ?_, hx⟩
  clear hx hv hc hb
  induction l generalizing xs with
  | nil => exact hr
  | cons x l ih =>
    obtain ⟨cs, rest, e, hk, hx, hr⟩ := hr
    exact ⟨cs, rest, e, hk, hR _ _ hx, ih _ hr⟩
theorem OwnOps.rd {base : Nat} {w : World} {v : Value} {l : List Op} (h : OwnOps base w v l) (hb : l.length ≤ 1099511627776) : RdOps w v l := (OwnL.rd h hb).weak fun _ _ h => h.opR
theorem info_op : (Tryz.prog.info? 65).map (fun i => (i.zero, i.size, i.bytes)) = some (some (.agg #[.int .i64 0, .string ⟨#[]⟩, .int .i64 0, .int .i64 0, .string ⟨#[]⟩, .int .i64 0, .slice none 0 0]), 7, 88) := by kernel_rfl
theorem push_op (w : World) (base : Nat) (ty : TypeId) {v : Value} {l : List Op} (o : Op) (sl : Value) (hown : OwnOps base w v l) (hx : OwnA w sl o.attrs) (h1 : szS o.text) (h2 : szS o.val.text) (hm : l.length + 1 ≤ 1099511627776) (hb : base ≤ w.heap.size) :
    ∃ v' w', (Builtin.append_ #[22, 22] ty #[v, .slice (some ⟨w.heap.size, 0, none⟩) 1 1]).run Tryz.prog (w.alloc (.cells #[.int .i64 o.kind, .string o.text, .int .i64 o.val.kind, .int .i64 o.val.num, .string o.val.text, .int .i64 o.count, sl] 65)) = .ok v' w' ∧ OwnOps base w' v' (l ++ [o]) ∧
      Kg (Fr base) (· == 65) w w' := by
  obtain ⟨v', w', r1, r2, r3, r4, r5, r6⟩ := run_push (P := Tryz.prog) (R := OpO) w base 22 ty 65 _ 7 88 Tryz.underlying22 info_op rfl (by omega) (by omega) OpO.flat (fun _ _ _ _ k h => OpO.kt h k (by decide)) hown (x := o) (cs := [.int .i64 o.kind, .string o.text, .int .i64 o.val.kind, .int .i64 o.val.num, .string o.val.text, .int .i64 o.count, sl]) ⟨sl, rfl, hx, h1, h2⟩ rfl hm hb
  obtain ⟨xs, ho, hr⟩ := hown
  exact ⟨v', w', r1, r2, Kg.of_own_alloc ho (by decide) (own_fr ho) r3⟩
theorem make_ops (w : World) (n : Nat) (hn : n ≤ 1099511627776) : ∃ v w', (Instr.makeSlice 22 (.int .i64 0) (.int .i64 (n : Int))).run Tryz.prog w = .ok v w' ∧ OwnOps w.heap.size w' v [] ∧ Gr w w' := by
  obtain ⟨i, hi, h1, h2, h3⟩ := info_of info_op
  obtain ⟨w', hr, ho, hg⟩ := run_make_own (P := Tryz.prog) w w.heap.size 22 65 i _ 7 Tryz.underlying22 hi h1 h2 .i64 .i64 n (by rw [h3]; omega) (by unfold maxLen; omega) (Nat.le_refl _)
  exact ⟨_, w', hr, ⟨[], ho, rfl⟩, (Gr.refl w).grown hg (by simp)⟩
end Ve
