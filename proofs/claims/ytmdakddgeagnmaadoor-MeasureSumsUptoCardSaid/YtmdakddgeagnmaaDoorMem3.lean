/- Worlds in which blocks of certain types of the call's own are written; the builder and deltas in memory. -/
import Derived.Test.YtmdakddgeagnmaaDoorMem2
import Derived.Test.YtmdakddgeagnmaaDoorSpec
import Derived.WalkSmall
set_option linter.all false
namespace Ve
open Go Go.RowKit Go.Proofs

/-- All that lay in w lies unturned in w', but blocks from base on whose elements are of a type of E. -/
structure Kg (base : Nat) (E : TypeId → Bool) (w w' : World) : Prop where
  os : w'.os = w.os
  tape : w'.tape = w.tape
  output : w'.output = w.output
  size : w.heap.size ≤ w'.heap.size
  blk : ∀ b, b < w.heap.size → (b < base ∨ ∀ c t f, w.heap[b]? = some (.cells c t f) → E t = false) → w'.heap[b]? = w.heap[b]?
section
variable {base : Nat} {E : TypeId → Bool} {a w w' w'' : World}
theorem Kg.of_gr (h : Gr w w') : Kg base E w w' := ⟨h.os, h.tape, h.output, h.size, fun b hb _ => h.block hb⟩
theorem Kg.refl (w : World) : Kg base E w w := Kg.of_gr (Gr.refl w)
theorem Kg.trans (h : Kg base E a w) (k : Kg base E w w') : Kg base E a w' :=
  ⟨k.os.trans h.os, k.tape.trans h.tape, k.output.trans h.output, Nat.le_trans h.size k.size, fun b hb hc => by
    have e := h.blk b hb hc
    exact (k.blk b (Nat.lt_of_lt_of_le hb h.size) (hc.imp id fun hc c t f hh => hc c t f (e ▸ hh))).trans e⟩
theorem Kg.trans_gr (h : Kg base E a w) (k : Gr w w') : Kg base E a w' := h.trans (Kg.of_gr k)
theorem Kg.alloc (h : Kg base E a w) (o : Obj) : Kg base E a (w.alloc o) := h.trans_gr ((Gr.refl w).alloc o)
theorem Kg.drew (h : Kg base E a w) : Kg base E a w.drew := h.trans_gr (Gr.refl w).drew
theorem Kg.drewN (h : Kg base E a w) (n : Nat) : Kg base E a (w.drewN n) := h.trans_gr ((Gr.refl w).drewN n)
theorem Kg.setCell (h : Kg base E a w) {g : Nat} {e : TypeId} {cs : Array Value} (hB : Blk w g e cs) (hE : E e = true) (hb : base ≤ g) (i : Nat) (v : Value) : Kg base E a (w.setCell ⟨g, i, none⟩ v) :=
  h.trans ⟨rfl, rfl, rfl, by simp [World.setCell], fun b hlt hc => Below.heap_setCell _ _ _ _ fun e' => by
    subst e'
    rcases hc with hc | hc
    · exact absurd hb (by simpa using hc)
    · exact absurd (hc _ _ _ hB) (by simp [hE])⟩
theorem Kg.setNew (h : Kg base E a w) {p : Addr} (hp : a.heap.size ≤ p.block) (v : Value) : Kg base E a (w.setCell p v) :=
  ⟨h.os, h.tape, h.output, by have := h.size; simpa [World.setCell] using this, fun b hb hc => (Below.heap_setCell w p v b (by omega)).trans (h.blk b hb hc)⟩
theorem Kg.base_le {base' : Nat} (h : Kg base E w w') (hb : base' ≤ base) : Kg base' E w w' :=
  ⟨h.os, h.tape, h.output, h.size, fun b hlt hc => h.blk b hlt (hc.imp (fun h => by omega) id)⟩
theorem Kg.mono {E' : TypeId → Bool} (h : Kg base E w w') (hE : ∀ t, E t = true → E' t = true) : Kg base E' w w' :=
  ⟨h.os, h.tape, h.output, h.size, fun b hlt hc => h.blk b hlt (hc.imp id fun hc c t f hh => by
    have := hc c t f hh
    cases he : E t with
    | false => rfl
    | true => rw [hE t he] at this; cases this)⟩
theorem Gr.kg (h : Gr a w) (k : Kg base E w w') (hb : a.heap.size ≤ base) : Gr a w' :=
  Below.trans h ⟨k.os, k.tape, k.output, k.size, fun i hi => k.blk i (Nat.lt_of_lt_of_le hi h.size) (.inl (by omega))⟩
theorem Kg.below (k : Kg base E w w') (hb : w.heap.size ≤ base) : Gr w w' := (Gr.refl w).kg k hb
theorem Blk.kg {g : Nat} {e : TypeId} {cs : Array Value} (h : Blk w g e cs) (k : Kg base E w w') (hne : E e = false) : Blk w' g e cs :=
  (k.blk g h.lt (.inr fun c t f hh => by rw [h] at hh; injection hh with hh; injection hh with _ hh; exact hh ▸ hne)).trans h
theorem Kg.of_own {k n : Nat} {e : TypeId} {v : Value} {xs : List Value} (h : w.ownsRow base e k v n xs) (hE : E e = true) (hg : w.grownBy w' v.ownBlock) : Kg base E w w' := by
  refine ⟨hg.os, hg.tape, hg.output, hg.size, fun b hb hc => hg.block b hb ?_⟩
  rcases h.2 with ⟨rfl, _⟩ | ⟨g, cap, cur, rfl, hbase, hh, _⟩
  · simp [Value.ownBlock]
  · simp only [Value.ownBlock, ne_eq, Option.some.injEq]
    rintro rfl
    rcases hc with hc | hc
    · omega
    · rw [hc _ _ _ hh] at hE; cases hE
theorem Kg.of_own_alloc {k n : Nat} {e : TypeId} {v : Value} {xs : List Value} {o : Obj} (h : w.ownsRow base e k v n xs) (hE : E e = true) (hg : (w.alloc o).grownBy w' v.ownBlock) : Kg base E w w' :=
  ((Kg.refl w).alloc o).trans (Kg.of_own (h.alloc o) hE hg)
theorem OwnL.kg {α : Type} {R : World → α → List Value → Prop} {k base base' : Nat} {e : TypeId} {E : TypeId → Bool} {w w' : World} {v : Value} {l : List α} (h : OwnL R k base e w v l) (hR : ∀ x cs, R w x cs → R w' x cs) (hg : Kg base' E w w') (hne : E e = false) : OwnL R k base e w' v l := by
  obtain ⟨xs, ⟨h1, h2⟩, hr⟩ := h
  refine ⟨xs, ⟨h1, ?_⟩, hr.map hR⟩
  rcases h2 with h2 | ⟨g, cap, cur, e1, e2, e3, rest⟩
  · exact .inl h2
  · refine .inr ⟨g, cap, cur, e1, e2, ?_, rest⟩
    rw [hg.blk g (Array.getElem?_eq_some_iff.1 e3).1 (.inr fun c t f h => ?_), e3]
    rw [e3] at h
    injection h with h; injection h with _ h
    exact h ▸ hne
theorem OwnA.kg {v : Value} {l : List Attr} (h : OwnA w v l) (hg : Kg base E w w') (hne : E 112 = false) : OwnA w' v l := ⟨OwnL.kg (w := w) h.1 (fun _ _ h => h.any) hg hne, h.2⟩
theorem PieceV.kg {p : Piece} {v : Value} (h : PieceV w p v) (g : Kg base E w w') (hne : E 112 = false) : PieceV w' p v := by
  cases p with
  | ins l t n => obtain ⟨sl, e, h, s⟩ := h; exact ⟨sl, e, h.kg g hne, s⟩
  | emb l t x => obtain ⟨sl, e, h, s⟩ := h; exact ⟨sl, e, h.kg g hne, s⟩
  | ret l n => obtain ⟨sl, e, h⟩ := h; exact ⟨sl, e, h.kg g hne⟩
  | del n => exact h
theorem PieceR.kg {p : Piece} {cs : List Value} (h : PieceR w p cs) (g : Kg base E w w') (hne : E 112 = false) : PieceR w' p cs := by
  obtain ⟨v, e, h⟩ := h; exact ⟨v, e, h.kg g hne⟩
end
/-- The piece number i. -/
theorem OwnP.at_ {base : Nat} {w : World} {a : Option Addr} {n cap : Nat} {l : List Piece} (h : OwnL PieceR 1 base 83 w (.slice a n cap) l) (i : Nat) (hi : i < n) :
    ∃ g p v, l[i]? = some p ∧ a = some ⟨g, 0, none⟩ ∧ base ≤ g ∧ w.cell? ⟨g, i, none⟩ = some v ∧ w.frozen? ⟨g, i, none⟩ = false ∧ PieceV w p v := by
  obtain ⟨xs, ho, hr⟩ := h
  have hl : l.length = n := by
    obtain ⟨a', cap', e, _⟩ := own_shape ho
    injection e with _ e _; exact e.symm
  obtain ⟨p, cs, hp, ⟨v, rfl, hv⟩, _, hc⟩ := hr.get i (by omega)
  rcases ho.2 with ⟨e, h0⟩ | ⟨g, cap', cur, e, hb, hh, _, _, _, ht⟩
  · omega
  · injection e with e1 e2 e3
    subst e1
    have h2 := hc 0 (by omega)
    rw [← ht, List.getElem?_take, if_pos (by omega)] at h2
    simp at h2
    exact ⟨g, p, v, hp, rfl, hb, by simp [World.cell?, hh, h2], by simp [World.frozen?, hh], hv⟩
theorem RowsR.set {α : Type} {R : World → α → List Value → Prop} {w : World} {l : List α} {xs : List Value} (h : RowsR R 1 w l xs) (i : Nat) (x : α) (v : Value) (hx : R w x [v]) : RowsR R 1 w (l.set i x) (xs.set i v) := by
  induction l generalizing xs i with
  | nil => unfold RowsR at h; subst h; simp [RowsR]
  | cons y l ih =>
    obtain ⟨cs, rest, rfl, hk, hy, hr⟩ := h
    match cs, hk with
    | [c], _ =>
      cases i with
      | zero => exact ⟨[v], rest, rfl, rfl, hx, hr⟩
      | succ i => exact ⟨[c], rest.set i v, rfl, rfl, hy, ih hr i⟩
/-- Piece number i is put anew. -/
theorem OwnP.put {base : Nat} {w : World} {n cap g : Nat} {l : List Piece} (h : OwnL PieceR 1 base 83 w (.slice (some ⟨g, 0, none⟩) n cap) l) (i : Nat) (p : Piece) (v : Value) (hv : PieceV w p v) :
    OwnL PieceR 1 base 83 (w.setCell ⟨g, i, none⟩ v) (.slice (some ⟨g, 0, none⟩) n cap) (l.set i p) ∧ Kg base (· == 83) w (w.setCell ⟨g, i, none⟩ v) := by
  obtain ⟨xs, ho, hr⟩ := h
  have hl : l.length = n := by
    obtain ⟨a', cap', e, _⟩ := own_shape ho
    injection e with _ e _; exact e.symm
  subst hl
  obtain ⟨h1, h2⟩ := ho.stored i v
  have hk : Kg base (· == 83) w (w.setCell ⟨g, i, none⟩ v) := Kg.of_own ho (by decide) (by simpa [Value.ownBlock] using h2)
  exact ⟨⟨xs.set i v, by rw [List.length_set]; exact h1, (hr.set i p v ⟨v, rfl, hv⟩).map fun _ _ h => h.kg hk (by decide)⟩, hk⟩
theorem OwnP.pop {base : Nat} {w : World} {n cap g : Nat} {l : List Piece} (h : OwnL PieceR 1 base 83 w (.slice (some ⟨g, 0, none⟩) (n + 1) cap) l) :
    OwnL PieceR 1 base 83 w (.slice (some ⟨g, 0, none⟩) n cap) l.dropLast := by
  obtain ⟨xs, ho, hr⟩ := h
  have hl : l.length = n + 1 := by
    obtain ⟨a', cap', e, _⟩ := own_shape ho
    injection e with _ e _; exact e.symm
  have hne : l ≠ [] := by rintro rfl; simp at hl
  obtain ⟨m, x, rfl⟩ : ∃ m x, l = m ++ [x] := ⟨l.dropLast, l.getLast hne, (List.dropLast_concat_getLast hne).symm⟩
  have hm : m.length = n := by simpa using hl
  rw [List.dropLast_concat]
  have : ∃ ys zs, xs = ys ++ zs ∧ RowsR PieceR 1 w m ys := by
    clear ho hl hne hm
    induction m generalizing xs with
    | nil => exact ⟨[], xs, rfl, rfl⟩
    | cons y m ih =>
      obtain ⟨cs, rest, rfl, hk, hy, hr⟩ := hr
      obtain ⟨ys, zs, rfl, hr'⟩ := ih _ hr
      exact ⟨cs ++ ys, zs, by simp, cs, ys, rfl, hk, hy, hr'⟩
  obtain ⟨ys, zs, rfl, hr'⟩ := this
  have hy := hr'.len
  rw [hl] at ho
  refine ⟨ys, ?_, hr'⟩
  rw [hm]
  exact ownsRow_pop (by rw [hy, hm]) ho

theorem Blk.drew {w : World} {g : Nat} {e : TypeId} {cs : Array Value} (h : Blk w g e cs) : Blk w.drew g e cs := h
theorem Blk.drewN {w : World} {g : Nat} {e : TypeId} {cs : Array Value} (h : Blk w g e cs) (n : Nat) : Blk (w.drewN n) g e cs := h.gr ((Gr.refl w).drewN n)
theorem Blk.cast {w : World} {g : Nat} {e : TypeId} {cs cs' : Array Value} (h : Blk w g e cs) (hc : cs = cs') : Blk w g e cs' := hc ▸ h
/-- Block g is one of elements of type e, none frozen. -/
def BT (w : World) (g : Nat) (e : TypeId) : Prop := ∃ cs, Blk w g e cs
section
variable {w w' : World} {g : Nat} {e : TypeId}
theorem Blk.bt {cs : Array Value} (h : Blk w g e cs) : BT w g e := ⟨cs, h⟩
theorem BT.set (h : BT w g e) (i : Nat) (v : Value) : BT (w.setCell ⟨g, i, none⟩ v) g e := by obtain ⟨cs, h⟩ := h; exact ⟨_, h.set i v⟩
theorem BT.far (h : BT w g e) {p : Addr} (hp : g ≠ p.block) (v : Value) : BT (w.setCell p v) g e := by obtain ⟨cs, h⟩ := h; exact ⟨_, h.far hp v⟩
theorem BT.alloc (h : BT w g e) (o : Obj) : BT (w.alloc o) g e := by obtain ⟨cs, h⟩ := h; exact ⟨_, h.alloc o⟩
theorem BT.drew (h : BT w g e) : BT w.drew g e := h
theorem BT.drewN (h : BT w g e) (n : Nat) : BT (w.drewN n) g e := by obtain ⟨cs, h⟩ := h; exact ⟨_, h.drewN n⟩
theorem BT.gr (h : BT w g e) (k : Gr w w') : BT w' g e := by obtain ⟨cs, h⟩ := h; exact ⟨_, h.gr k⟩
theorem Kg.setB {base : Nat} {E : TypeId → Bool} {a : World} (h : Kg base E a w) (hB : BT w g e) (hE : E e = true) (hb : base ≤ g) (i : Nat) (v : Value) : Kg base E a (w.setCell ⟨g, i, none⟩ v) := by
  obtain ⟨cs, hB⟩ := hB
  exact h.setCell hB hE hb i v
end
/-- A delta. -/
def DeltaR (w : World) (v : Value) (l : List Piece) : Prop := ∃ g sl, v = .pointer (some ⟨g, 0, none⟩) ∧ Blk w g 68 #[sl] ∧ RdPieces w sl l
theorem DeltaR.gr {w w' : World} {v : Value} {l : List Piece} (h : DeltaR w v l) (g : Gr w w') : DeltaR w' v l := by
  obtain ⟨b, sl, e, hb, hr⟩ := h
  exact ⟨b, sl, e, hb.gr g, RdPieces.gr hr g⟩
def bT (t : TypeId) : Bool := t == 102
/-- Blocks that a builder writes. -/
def bldT (t : TypeId) : Bool := t == 83 || t == 102
def BldR (base : Nat) (w : World) (g : Nat) (s : Bld) : Prop :=
  base ≤ g ∧ ∃ sl, Blk w g 102 #[.int .i64 s.base, .int .i64 s.result, sl, .int .i64 s.gone] ∧ OwnL PieceR 1 base 83 w sl s.pieces
theorem BldR.gr {base : Nat} {w w' : World} {g : Nat} {s : Bld} (h : BldR base w g s) (k : Gr w w') : BldR base w' g s := by
  obtain ⟨hb, sl, hB, ho⟩ := h
  exact ⟨hb, sl, hB.gr k, OwnL.gr (w := w) ho (fun _ _ h => h.gr k) k⟩

/-- An operation's cells, its attributes in a block of their own. -/
def OpO (w : World) (x : Op) (cs : List Value) : Prop :=
  ∃ v, cs = [.int .i64 x.kind, .string x.text, .int .i64 x.val.kind, .int .i64 x.val.num, .string x.val.text, .int .i64 x.count, v] ∧ OwnA w v x.attrs ∧ szS x.text ∧ szS x.val.text
theorem OpO.gr {w w' : World} {x : Op} {cs : List Value} (h : OpO w x cs) (hg : Gr w w') : OpO w' x cs := by
  obtain ⟨v, e, hr, hs⟩ := h
  exact ⟨v, e, hr.gr hg, hs⟩
theorem OpO.kt {base : Nat} {e : TypeId} {w w' : World} {x : Op} {cs : List Value} (h : OpO w x cs) (hg : Kt base e w w') (hne : 112 ≠ e) : OpO w' x cs := by
  obtain ⟨v, e, hr, hs⟩ := h
  exact ⟨v, e, hr.kt hg hne, hs⟩
theorem OpO.kg {base : Nat} {E : TypeId → Bool} {w w' : World} {x : Op} {cs : List Value} (h : OpO w x cs) (hg : Kg base E w w') (hne : E 112 = false) : OpO w' x cs := by
  obtain ⟨v, e, hr, hs⟩ := h
  exact ⟨v, e, hr.kg hg hne, hs⟩
theorem OpO.opR {w : World} {x : Op} {cs : List Value} (h : OpO w x cs) : OpR w x cs := by
  obtain ⟨v, e, hr, hs⟩ := h
  exact ⟨v, e, hr.rd, hs⟩
theorem OpO.flat (w : World) (x : Op) (cs : List Value) (h : OpO w x cs) : ∀ u ∈ cs, u.oneCell' = true := OpR.flat w x cs h.opR
abbrev OwnOps (base : Nat) (w : World) (v : Value) (l : List Op) : Prop := OwnL OpO 7 base 51 w v l
theorem OwnOps.gr {base : Nat} {w w' : World} {v : Value} {l : List Op} (h : OwnOps base w v l) (hg : Gr w w') : OwnOps base w' v l := OwnL.gr (w := w) h (fun _ _ h => h.gr hg) hg
theorem OwnOps.kg {base base' : Nat} {E : TypeId → Bool} {w w' : World} {v : Value} {l : List Op} (h : OwnOps base w v l) (hg : Kg base' E w w') (h1 : E 112 = false) (h2 : E 51 = false) : OwnOps base w' v l := OwnL.kg (w := w) h (fun _ _ h => h.kg hg h1) hg h2
theorem RdList.weak {α : Type} {R R' : World → α → List Value → Prop} {k : Nat} {w : World} {v : Value} {l : List α} (h : RdList R k w v l) (hR : ∀ x cs, R w x cs → R' w x cs) : RdList R' k w v l := by
  obtain ⟨a, cap, xs, hv, hc, hm, hb, hr, hx⟩ := h
  refine ⟨a, cap, xs, hv, hc, hm, hb, ?_, hx⟩
  clear hx hv hc hb
  induction l generalizing xs with
  | nil => exact hr
  | cons x l ih =>
    obtain ⟨cs, rest, e, hk, hx, hr⟩ := hr
    exact ⟨cs, rest, e, hk, hR _ _ hx, ih _ hr⟩
theorem OwnOps.rd {base : Nat} {w : World} {v : Value} {l : List Op} (h : OwnOps base w v l) (hb : l.length ≤ 1099511627776) : RdOps w v l := (OwnL.rd h hb).weak fun _ _ h => h.opR
theorem info_op : (Tryd.prog.info? 51).map (fun i => (i.zero, i.size, i.bytes)) = some (some (.agg #[.int .i64 0, .string ⟨#[]⟩, .int .i64 0, .int .i64 0, .string ⟨#[]⟩, .int .i64 0, .slice none 0 0]), 7, 88) := by kernel_rfl
theorem push_op (w : World) (base : Nat) (ty : TypeId) {v : Value} {l : List Op} (o : Op) (sl : Value) (hown : OwnOps base w v l) (hx : OwnA w sl o.attrs) (h1 : szS o.text) (h2 : szS o.val.text) (hm : l.length + 1 ≤ 1099511627776) (hb : base ≤ w.heap.size) :
    ∃ v' w', (Builtin.append_ #[22, 22] ty #[v, .slice (some ⟨w.heap.size, 0, none⟩) 1 1]).run Tryd.prog (w.alloc (.cells #[.int .i64 o.kind, .string o.text, .int .i64 o.val.kind, .int .i64 o.val.num, .string o.val.text, .int .i64 o.count, sl] 51)) = .ok v' w' ∧ OwnOps base w' v' (l ++ [o]) ∧
      Kg base (· == 51) w w' := by
  obtain ⟨v', w', r1, r2, r3, r4, r5, r6⟩ := run_push (P := Tryd.prog) (R := OpO) w base 22 ty 51 _ 7 88 Tryd.underlying22 info_op rfl (by omega) (by omega) OpO.flat (fun _ _ _ _ k h => OpO.kt h k (by decide)) hown (x := o) (cs := [.int .i64 o.kind, .string o.text, .int .i64 o.val.kind, .int .i64 o.val.num, .string o.val.text, .int .i64 o.count, sl]) ⟨sl, rfl, hx, h1, h2⟩ rfl hm hb
  obtain ⟨xs, ho, hr⟩ := hown
  exact ⟨v', w', r1, r2, Kg.of_own_alloc ho (by decide) r3⟩
theorem make_ops (w : World) (n : Nat) (hn : n ≤ 1099511627776) : ∃ v w', (Instr.makeSlice 22 (.int .i64 0) (.int .i64 (n : Int))).run Tryd.prog w = .ok v w' ∧ OwnOps w.heap.size w' v [] ∧ Gr w w' := by
  obtain ⟨i, hi, h1, h2, h3⟩ := info_of info_op
  obtain ⟨w', hr, ho, hg⟩ := run_make_own (P := Tryd.prog) w w.heap.size 22 51 i _ 7 Tryd.underlying22 hi h1 h2 .i64 .i64 n (by rw [h3]; omega) (by unfold maxLen; omega) (Nat.le_refl _)
  exact ⟨_, w', hr, ⟨[], ho, rfl⟩, (Gr.refl w).grown hg (by simp)⟩
end Ve
