/- How attributes and operations lie in memory; append onto a row of the call's own. -/
import Derived.Test.YtmdakddgeagnmaaDoorMem
import Derived.Test.YtmdakddgeagnmaaDoorProg
import Derived.KernelRfl
import Derived.OwnWalk
set_option linter.all false
namespace Ve
open Go Go.RowKit Go.Proofs

/-- An attribute's cells. -/
def AttrR (_ : World) (x : Attr) (cs : List Value) : Prop := cs = [.string x.key, .int .i64 x.val.kind, .int .i64 x.val.num, .string x.val.text] ∧ szS x.key ∧ szS x.val.text
theorem AttrR.any {w w' : World} {x : Attr} {cs : List Value} (h : AttrR w x cs) : AttrR w' x cs := h
abbrev RdAttrs (w : World) (v : Value) (l : List Attr) : Prop := RdList AttrR 4 w v l
def OwnA (w : World) (v : Value) (l : List Attr) : Prop := OwnL AttrR 4 0 112 w v l ∧ l.length ≤ 1099511627776
theorem RdAttrs.gr {w w' : World} {v : Value} {l : List Attr} (h : RdAttrs w v l) (hg : Gr w w') : RdAttrs w' v l := RdList.gr (w := w) h (fun _ _ h => h) hg
theorem OwnA.gr {w w' : World} {v : Value} {l : List Attr} (h : OwnA w v l) (hg : Gr w w') : OwnA w' v l := ⟨OwnL.gr (w := w) h.1 (fun _ _ h => h) hg, h.2⟩
theorem OwnA.rd {w : World} {v : Value} {l : List Attr} (h : OwnA w v l) : RdAttrs w v l := h.1.rd h.2
/-- An operation's cells. -/
def OpR (w : World) (x : Op) (cs : List Value) : Prop :=
  ∃ v, cs = [.int .i64 x.kind, .string x.text, .int .i64 x.val.kind, .int .i64 x.val.num, .string x.val.text, .int .i64 x.count, v] ∧ RdAttrs w v x.attrs ∧ szS x.text ∧ szS x.val.text
theorem OpR.gr {w w' : World} {x : Op} {cs : List Value} (h : OpR w x cs) (hg : Gr w w') : OpR w' x cs := by
  obtain ⟨v, e, hr, hs⟩ := h
  exact ⟨v, e, RdAttrs.gr hr hg, hs⟩
abbrev RdOps (w : World) (v : Value) (l : List Op) : Prop := RdList OpR 7 w v l
theorem RdOps.gr {w w' : World} {v : Value} {l : List Op} (h : RdOps w v l) (hg : Gr w w') : RdOps w' v l := RdList.gr (w := w) h (fun _ _ h => h.gr hg) hg
/-- The cells of attribute number i. -/
theorem RdAttrs.at_ {w : World} {a : Option Addr} {n cap : Nat} {l : List Attr} (h : RdAttrs w (.slice a n cap) l) (i : Nat) (hi : i < n) :
    ∃ b off xk xa xb xt, l[i]? = some ⟨xk, ⟨xa, xb, xt⟩⟩ ∧ a = some ⟨b, off, none⟩ ∧ w.cell? ⟨b, off + i * 4, none⟩ = some (.string xk) ∧ w.cell? ⟨b, off + i * 4 + 1, none⟩ = some (.int .i64 xa) ∧
      w.cell? ⟨b, off + i * 4 + 2, none⟩ = some (.int .i64 xb) ∧ w.cell? ⟨b, off + i * 4 + 3, none⟩ = some (.string xt) ∧ szS xk ∧ szS xt := by
  obtain ⟨b, off, ⟨xk, ⟨xa, xb, xt⟩⟩, cs, e, hx, ⟨rfl, s1, s2⟩, _, hc⟩ := RdList.get h i hi
  exact ⟨b, off, xk, xa, xb, xt, hx, e, hc 0 _ (by omega) rfl, hc 1 _ (by omega) rfl, hc 2 _ (by omega) rfl, hc 3 _ (by omega) rfl, s1, s2⟩
/-- The cells of operation number i. -/
theorem RdOps.at_ {w : World} {a : Option Addr} {n cap : Nat} {l : List Op} (h : RdOps w (.slice a n cap) l) (i : Nat) (hi : i < n) :
    ∃ b off k t va vb vt c ats sl, l[i]? = some ⟨k, t, ⟨va, vb, vt⟩, c, ats⟩ ∧ a = some ⟨b, off, none⟩ ∧ RdAttrs w sl ats ∧ w.cell? ⟨b, off + i * 7, none⟩ = some (.int .i64 k) ∧ w.cell? ⟨b, off + i * 7 + 1, none⟩ = some (.string t) ∧
      w.cell? ⟨b, off + i * 7 + 2, none⟩ = some (.int .i64 va) ∧ w.cell? ⟨b, off + i * 7 + 3, none⟩ = some (.int .i64 vb) ∧ w.cell? ⟨b, off + i * 7 + 4, none⟩ = some (.string vt) ∧
      w.cell? ⟨b, off + i * 7 + 5, none⟩ = some (.int .i64 c) ∧ w.cell? ⟨b, off + i * 7 + 6, none⟩ = some sl ∧ szS t ∧ szS vt := by
  obtain ⟨b, off, ⟨k, t, ⟨va, vb, vt⟩, c, ats⟩, cs, e, hx, ⟨sl, rfl, hr, s1, s2⟩, _, hc⟩ := RdList.get h i hi
  exact ⟨b, off, k, t, va, vb, vt, c, ats, sl, hx, e, hr, hc 0 _ (by omega) rfl, hc 1 _ (by omega) rfl, hc 2 _ (by omega) rfl, hc 3 _ (by omega) rfl, hc 4 _ (by omega) rfl, hc 5 _ (by omega) rfl, hc 6 _ (by omega) rfl, s1, s2⟩
theorem AttrR.flat (w : World) (x : Attr) (cs : List Value) (h : AttrR w x cs) : ∀ u ∈ cs, u.oneCell' = true := by
  obtain ⟨rfl, _⟩ := h
  simp [Value.oneCell']
theorem OpR.flat (w : World) (x : Op) (cs : List Value) (h : OpR w x cs) : ∀ u ∈ cs, u.oneCell' = true := by
  obtain ⟨v, rfl, hr, _⟩ := h
  obtain ⟨a, cap, rfl, _⟩ := RdList.slice hr
  simp [Value.oneCell']

/-- A value of the interface. -/
@[irreducible] def valV (p : Plain) : Value :=
  if p.kind = 1 then .iface 151 (.bool (p.num == 1)) else if p.kind = 2 then .iface 152 (.int .i64 p.num)
  else if p.kind = 3 then .iface 153 (.string p.text) else .iface 155 (.agg #[])
theorem valV_form (p : Plain) : ∃ T y, valV p = .iface T y := by
  unfold valV
  split
  · exact ⟨_, _, rfl⟩
  · split
    · exact ⟨_, _, rfl⟩
    · split
      · exact ⟨_, _, rfl⟩
      · exact ⟨_, _, rfl⟩
/-- A piece as a value of the interface. -/
def PieceV (w : World) : Piece → Value → Prop
  | .ins l t n, v => ∃ sl, v = .iface 119 (.agg #[sl, .string t, .int .i64 n]) ∧ OwnA w sl l ∧ szS t
  | .emb l t x, v => ∃ sl, v = .iface 123 (.agg #[sl, .string t, valV x]) ∧ OwnA w sl l ∧ szS t ∧ szS x.text
  | .ret l n, v => ∃ sl, v = .iface 87 (.agg #[sl, .int .i64 n]) ∧ OwnA w sl l
  | .del n, v => v = .iface 90 (.agg #[.int .i64 n])
theorem PieceV.form {w : World} {p : Piece} {v : Value} (h : PieceV w p v) : ∃ T y, v = .iface T y := by
  cases p with
  | ins l t n => obtain ⟨sl, e, _⟩ := h; exact ⟨_, _, e⟩
  | emb l t x => obtain ⟨sl, e, _⟩ := h; exact ⟨_, _, e⟩
  | ret l n => obtain ⟨sl, e, _⟩ := h; exact ⟨_, _, e⟩
  | del n => exact ⟨_, _, h⟩
theorem PieceV.gr {w w' : World} {p : Piece} {v : Value} (h : PieceV w p v) (g : Gr w w') : PieceV w' p v := by
  cases p with
  | ins l t n => obtain ⟨sl, e, h, s⟩ := h; exact ⟨sl, e, h.gr g, s⟩
  | emb l t x => obtain ⟨sl, e, h, s⟩ := h; exact ⟨sl, e, h.gr g, s⟩
  | ret l n => obtain ⟨sl, e, h⟩ := h; exact ⟨sl, e, h.gr g⟩
  | del n => exact h
def PieceR (w : World) (p : Piece) (cs : List Value) : Prop := ∃ v, cs = [v] ∧ PieceV w p v
theorem PieceR.gr {w w' : World} {p : Piece} {cs : List Value} (h : PieceR w p cs) (g : Gr w w') : PieceR w' p cs := by
  obtain ⟨v, e, h⟩ := h; exact ⟨v, e, h.gr g⟩
theorem PieceR.flat (w : World) (x : Piece) (cs : List Value) (h : PieceR w x cs) : ∀ u ∈ cs, u.oneCell' = true := by
  obtain ⟨v, rfl, h⟩ := h
  cases x with
  | ins l t n => obtain ⟨sl, rfl, _⟩ := h; simp [Value.oneCell']
  | emb l t x => obtain ⟨sl, rfl, _⟩ := h; simp [Value.oneCell']
  | ret l n => obtain ⟨sl, rfl, _⟩ := h; simp [Value.oneCell']
  | del n => subst h; simp [Value.oneCell']
abbrev RdPieces (w : World) (v : Value) (l : List Piece) : Prop := RdList PieceR 1 w v l
theorem RdPieces.gr {w w' : World} {v : Value} {l : List Piece} (h : RdPieces w v l) (hg : Gr w w') : RdPieces w' v l := RdList.gr (w := w) h (fun _ _ h => h.gr hg) hg
theorem OwnA.kt {base : Nat} {e : TypeId} {w w' : World} {v : Value} {l : List Attr} (h : OwnA w v l) (hg : Kt base e w w') (hne : 112 ≠ e) : OwnA w' v l := ⟨OwnL.kt (w := w) h.1 (fun _ _ h => h) hg hne, h.2⟩
theorem PieceV.kt {base : Nat} {e : TypeId} {w w' : World} {p : Piece} {v : Value} (h : PieceV w p v) (g : Kt base e w w') (hne : 112 ≠ e) : PieceV w' p v := by
  cases p with
  | ins l t n => obtain ⟨sl, e, h, s⟩ := h; exact ⟨sl, e, h.kt g hne, s⟩
  | emb l t x => obtain ⟨sl, e, h, s⟩ := h; exact ⟨sl, e, h.kt g hne, s⟩
  | ret l n => obtain ⟨sl, e, h⟩ := h; exact ⟨sl, e, h.kt g hne⟩
  | del n => exact h
theorem PieceR.kt {base : Nat} {e : TypeId} {w w' : World} {p : Piece} {cs : List Value} (h : PieceR w p cs) (g : Kt base e w w') (hne : 112 ≠ e) : PieceR w' p cs := by
  obtain ⟨v, e, h⟩ := h; exact ⟨v, e, h.kt g hne⟩
theorem OwnAL.setCell {base : Nat} {w : World} {v : Value} {l : List Attr} (h : OwnL AttrR 4 base 112 w v l) {a : Addr} (ha : a.block < base) (u : Value) : OwnL AttrR 4 base 112 (w.setCell a u) v l := OwnL.setCell h ha u (fun _ _ h => h.any)
/-! append. -/
theorem info_of {P : Program} {e : TypeId} {z : Value} {s b : Nat} (h : (P.info? e).map (fun i => (i.zero, i.size, i.bytes)) = some (some z, s, b)) : ∃ i, P.info? e = some i ∧ i.zero = some z ∧ i.size = s ∧ i.bytes = b := by
  obtain ⟨i, hi, h2⟩ := Option.map_eq_some_iff.1 h
  simp only [Prod.mk.injEq] at h2
  exact ⟨i, hi, h2.1, h2.2.1, h2.2.2⟩
/-- append(v, x...): v a row of the call's own, x nil, empty or not. -/
theorem run_app {P : Program} (w : World) (base : Nat) (t ty e : TypeId) (z : Value) (k bytes : Nat) (ht : P.underlying t = some (.slice e))
    (hi : (P.info? e).map (fun i => (i.zero, i.size, i.bytes)) = some (some z, k, bytes)) (hz : z.cells.size = k) (hk : 0 < k) (hby : bytes ≤ 128)
    (v : Value) (n : Nat) (xs : List Value) (hown : w.ownsRow base e k v n xs) (a : Option Addr) (m c : Nat) (news : List Value) (hl : news.length = m * k) (hx : CellsIn w a m news)
    (h1 : ∀ u ∈ news, u.oneCell' = true) (hm : n + m ≤ 1099511627776) (hb : base ≤ w.heap.size) :
    ∃ v' w', (Builtin.append_ #[t, t] ty #[v, .slice a m c]).run P w = .ok v' w' ∧ w'.ownsRow base e k v' (n + m) (xs ++ news) ∧ w.grownBy w' v.ownBlock ∧ (v'.ownBlock = v.ownBlock ∨ v'.ownBlock = some w.heap.size) := by
  obtain ⟨i, hi, hz1, hz2, hz3⟩ := info_of hi
  have h63 : n + m ≤ maxLen := by unfold maxLen; omega
  have hby' : (n + m) * bytes ≤ 140737488355328 := by
    have := Nat.mul_le_mul hm hby
    omega
  rcases Nat.eq_zero_or_pos m with h0 | h0
  · subst h0
    have hn : news = [] := List.eq_nil_of_length_eq_zero (by simpa using hl)
    subst hn
    cases a with
    | none =>
      refine ⟨v, w, ?_, by simpa using hown, World.grownBy.refl w _, .inl rfl⟩
      rcases hown.2 with ⟨rfl, rfl⟩ | ⟨g, cap, cur, rfl, _, _, hnc, _⟩
      · simp [Builtin.append_, run_underlying ht, Go.sizeOf, typeInfo, hi, Builtin.lenOf, Builtin.firstCells]
      · simp [Builtin.append_, run_underlying ht, Go.sizeOf, typeInfo, hi, Builtin.lenOf, Builtin.firstCells, hnc, storeCells]
    | some ad =>
      obtain ⟨v', w', hrun, h2, h3, _, h5⟩ := run_append_own_at (P := P) w base t ty e i z k bytes ht hi hz1 hz2 hz3 hz hk v n xs hown ad 0 c [] (by simp) (fun j u h => by simp at h) h1 h63 hby' hb
      exact ⟨v', w', hrun, h2, h3, h5⟩
  · obtain ⟨b, off, rfl, hc⟩ := hx h0
    obtain ⟨v', w', hrun, h2, h3, _, h5⟩ := run_append_own_at (P := P) w base t ty e i z k bytes ht hi hz1 hz2 hz3 hz hk v n xs hown ⟨b, off, none⟩ m c news hl
      (fun j u hu => by
        have := hc j u hu
        unfold Addr.add
        split
        · rename_i h; subst h; exact this
        · exact this) h1 h63 hby' hb
    exact ⟨v', w', hrun, h2, h3, h5⟩
/-- An append whose run is known. -/
theorem wpList_run {P : Program} {w w' : World} {ops : Array Oper} {rest : List Oper} {o : Oper} {a : Act} {Q : Exit → Act → World → Prop} (hgd : o.guard = none) (s x : Operand) (t : TypeId)
    (ho : o.op = .call { callee := .builtin .append, args := #[s, x], argTypes := #[t, t] }) {v vx v' : Value} (hs : a.eval s = v) (hx : a.eval x = vx)
    (hrun : (Builtin.append_ #[t, t] o.type #[v, vx]).run P w = .ok v' w') (h : wpList P ops Q rest (a.put o.dst v') w') : wpList P ops Q (o :: rest) a w :=
  wpList_plain hgd fun K hK => by
    unfold Oper.wp execOp
    simp only [ho, resolve, invoke, builtin, Sem.run_bind, Sem.run_pure, Result.andThen_ok, List.map_toArray, List.map_cons, List.map_nil, hs, hx, hrun]
    exact hK _ _ h
/-- The same, of lists. -/
theorem run_appL {α : Type} {R : World → α → List Value → Prop} {P : Program} (w : World) (base : Nat) (t ty e : TypeId) (z : Value) (k bytes : Nat) (ht : P.underlying t = some (.slice e))
    (hi : (P.info? e).map (fun i => (i.zero, i.size, i.bytes)) = some (some z, k, bytes)) (hz : z.cells.size = k) (hk : 0 < k) (hby : bytes ≤ 128)
    (hflat : ∀ x cs, R w x cs → ∀ u ∈ cs, u.oneCell' = true)
    {v x : Value} {l m : List α} (hown : OwnL R k base e w v l) (hx : RdList R k w x m) (hm : l.length + m.length ≤ 1099511627776) (hb : base ≤ w.heap.size)
    (hR : ∀ w' y cs, w.grownBy w' v.ownBlock → R w y cs → R w' y cs) :
    ∃ v' w', (Builtin.append_ #[t, t] ty #[v, x]).run P w = .ok v' w' ∧ OwnL R k base e w' v' (l ++ m) ∧ w.grownBy w' v.ownBlock ∧ (v'.ownBlock = v.ownBlock ∨ v'.ownBlock = some w.heap.size) := by
  obtain ⟨xs, ho, hr⟩ := hown
  obtain ⟨a, cap, ys, rfl, _, _, _, hr', hc⟩ := hx
  obtain ⟨v', w', h1, h2, h3, h4⟩ := run_app w base t ty e z k bytes ht hi hz hk hby v l.length xs ho a m.length cap ys hr'.len hc (hr'.all hflat) hm hb
  exact ⟨v', w', h1, ⟨xs ++ ys, by rw [List.length_append]; exact h2, (hr.app hr').map fun y cs => hR _ y cs h3⟩, h3, h4⟩
/-- append(v, x), x one element in a block of its own. -/
theorem run_push {α : Type} {R : World → α → List Value → Prop} {P : Program} (w : World) (base : Nat) (t ty e : TypeId) (z : Value) (k bytes : Nat) (ht : P.underlying t = some (.slice e))
    (hi : (P.info? e).map (fun i => (i.zero, i.size, i.bytes)) = some (some z, k, bytes)) (hz : z.cells.size = k) (hk : 0 < k) (hby : bytes ≤ 128)
    (hflat : ∀ w x cs, R w x cs → ∀ u ∈ cs, u.oneCell' = true) (hst : ∀ w1 w2 y cs, Kt base e w1 w2 → R w1 y cs → R w2 y cs)
    {v : Value} {l : List α} {x : α} {cs : List Value} (hown : OwnL R k base e w v l) (hx : R w x cs) (hcs : cs.length = k) (hm : l.length + 1 ≤ 1099511627776) (hb : base ≤ w.heap.size) :
    ∃ v' w', (Builtin.append_ #[t, t] ty #[v, .slice (some ⟨w.heap.size, 0, none⟩) 1 1]).run P (w.alloc (.cells cs.toArray e)) = .ok v' w' ∧ OwnL R k base e w' v' (l ++ [x]) ∧
      (w.alloc (.cells cs.toArray e)).grownBy w' v.ownBlock ∧ Kt base e w w' ∧ w.heap.size < w'.heap.size ∧ (∀ b, v.ownBlock = some b → base ≤ b) := by
  obtain ⟨xs, ho, hr⟩ := hown
  have ho' : (w.alloc (.cells cs.toArray e)).ownsRow base e k v l.length xs := ho.alloc _
  have hc : CellsIn (w.alloc (.cells cs.toArray e)) (some ⟨w.heap.size, 0, none⟩) 1 cs := fun _ => ⟨_, _, rfl, fun j u hu => by simpa using hu⟩
  obtain ⟨v', w', h1, h2, h3, h4⟩ := run_app (w.alloc (.cells cs.toArray e)) base t ty e z k bytes ht hi hz hk hby v l.length xs ho' _ 1 1 cs (by omega) hc (hflat w x cs hx) hm (by simp; omega)
  have hkt : Kt base e w w' := fun b hlt hc' => by
    rw [Kt.of_own ho' h3 b (by simp; omega) (by rw [Below.heap_alloc w _ b hlt]; exact hc'), Below.heap_alloc w _ b hlt]
  refine ⟨v', w', h1, ⟨xs ++ cs, by rw [List.length_append]; exact h2, (hr.map fun y c => hst _ _ y c hkt).app (RowsR.one hcs (hst _ _ x cs hkt hx))⟩, h3, hkt, ?_, fun b hb' => (ho.lt b hb').1⟩
  have := h3.size
  simp at this
  omega
/-- What a row of the call's own has grown by, seen from the call's beginning. -/
theorem Gr.push {a w w' : World} {o : Obj} {row : Option Nat} (h : Gr a w) (hg : (w.alloc o).grownBy w' row) (hr : ∀ b, row = some b → a.heap.size ≤ b) : Gr a w' := (h.alloc o).grown hg hr
theorem info_piece : (Tryd.prog.info? 83).map (fun i => (i.zero, i.size, i.bytes)) = some (some .nilIface, 1, 16) := by kernel_rfl
theorem push_piece (w : World) (base : Nat) (ty : TypeId) {v : Value} {l : List Piece} {p : Piece} {pv : Value} (hown : OwnL PieceR 1 base 83 w v l) (hx : PieceV w p pv) (hm : l.length + 1 ≤ 1099511627776) (hb : base ≤ w.heap.size) :
    ∃ v' w', (Builtin.append_ #[66, 66] ty #[v, .slice (some ⟨w.heap.size, 0, none⟩) 1 1]).run Tryd.prog (w.alloc (.cells #[pv] 83)) = .ok v' w' ∧ OwnL PieceR 1 base 83 w' v' (l ++ [p]) ∧
      (w.alloc (.cells #[pv] 83)).grownBy w' v.ownBlock ∧ Kt base 83 w w' ∧ w.heap.size < w'.heap.size ∧ (∀ b, v.ownBlock = some b → base ≤ b) :=
  run_push w base _ ty _ _ 1 16 Tryd.underlying66 info_piece rfl (by omega) (by omega) PieceR.flat (fun _ _ _ _ k h => PieceR.kt h k (by decide)) hown ⟨pv, rfl, hx⟩ rfl hm hb
end Ve
