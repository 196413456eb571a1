/- Walks of layer 6: methods of pieces, small functions of the builder. -/
import Derived.Test.YtnlpmajiccliiaaGreatDoorP3
import Derived.Test.YtnlpmajiccliiaaGreatDoorMem3
set_option linter.all false
namespace Ve
open Go Go.RowKit Go.Proofs

/-- The method Len of a piece. -/
theorem len_meth {w : World} {p : Piece} {v : Value} (h : PieceV w p v) : ∃ T y f, v = .iface T y ∧ (∀ d w, (method (d + 1) T y "Len").run Tryz.prog w = .ok (f, y) w) ∧ (∀ args w, (callFunc f args).run Tryz.prog w = .ok (.enter f args) w) ∧ (∀ w, Calls Tryz.prog f #[y] w fun e w' => e = .returned (.int .i64 p.len) ∧ Gr w w') := by
  cases p with
  | ins l t n =>
    obtain ⟨sl, rfl, h, -⟩ := h
    obtain ⟨a, m, c, rfl, -⟩ := h.1.sl
    exact ⟨_, _, _, rfl, fun d w => meth_Insert_Len d _ _ _ w, enters_of Tryz.func227 (by kernel_rfl) rfl, fun w => insLen_any _ _ _ w ⟨_, _, _, rfl⟩⟩
  | emb l t x =>
    obtain ⟨sl, rfl, h, -⟩ := h
    obtain ⟨a, m, c, rfl, -⟩ := h.1.sl
    exact ⟨_, _, _, rfl, fun d w => meth_Embed_Len d _ _ _ w, enters_of Tryz.func229 (by kernel_rfl) rfl, fun w => embLen_any _ _ _ w ⟨_, _, _, rfl⟩ (valV_form x)⟩
  | ret l n =>
    obtain ⟨sl, rfl, h⟩ := h
    obtain ⟨a, m, c, rfl, -⟩ := h.1.sl
    exact ⟨_, _, _, rfl, fun d w => meth_Retain_Len d _ _ w, enters_of Tryz.func224 (by kernel_rfl) rfl, fun w => retLen_any _ _ w ⟨_, _, _, rfl⟩⟩
  | del n =>
    obtain rfl := h
    exact ⟨_, _, _, rfl, fun d w => meth_Delete_Len d _ w, enters_of Tryz.func226 (by kernel_rfl) rfl, fun w => delLen_any _ w⟩
theorem ta_Insert_Insert (v : Value) (w : World) : (Instr.typeAssert (.iface 190 v) 109 190 true).run Tryz.prog w = .ok (.tuple #[v, .bool true]) w := by kernel_rfl
theorem ta_Insert_Embed (v : Value) (w : World) : (Instr.typeAssert (.iface 190 v) 109 194 true).run Tryz.prog w = .ok (.tuple #[.agg #[.slice none 0 0, .string ⟨#[]⟩, .nilIface], .bool false]) w := by kernel_rfl
theorem ta_Insert_Retain (v : Value) (w : World) : (Instr.typeAssert (.iface 190 v) 109 113 true).run Tryz.prog w = .ok (.tuple #[.agg #[.slice none 0 0, .int .i64 0], .bool false]) w := by kernel_rfl
theorem ta_Insert_Delete (v : Value) (w : World) : (Instr.typeAssert (.iface 190 v) 109 118 true).run Tryz.prog w = .ok (.tuple #[.agg #[.int .i64 0], .bool false]) w := by kernel_rfl
theorem ta_Embed_Insert (v : Value) (w : World) : (Instr.typeAssert (.iface 194 v) 109 190 true).run Tryz.prog w = .ok (.tuple #[.agg #[.slice none 0 0, .string ⟨#[]⟩, .int .i64 0], .bool false]) w := by kernel_rfl
theorem ta_Embed_Embed (v : Value) (w : World) : (Instr.typeAssert (.iface 194 v) 109 194 true).run Tryz.prog w = .ok (.tuple #[v, .bool true]) w := by kernel_rfl
theorem ta_Embed_Retain (v : Value) (w : World) : (Instr.typeAssert (.iface 194 v) 109 113 true).run Tryz.prog w = .ok (.tuple #[.agg #[.slice none 0 0, .int .i64 0], .bool false]) w := by kernel_rfl
theorem ta_Embed_Delete (v : Value) (w : World) : (Instr.typeAssert (.iface 194 v) 109 118 true).run Tryz.prog w = .ok (.tuple #[.agg #[.int .i64 0], .bool false]) w := by kernel_rfl
theorem ta_Retain_Insert (v : Value) (w : World) : (Instr.typeAssert (.iface 113 v) 109 190 true).run Tryz.prog w = .ok (.tuple #[.agg #[.slice none 0 0, .string ⟨#[]⟩, .int .i64 0], .bool false]) w := by kernel_rfl
theorem ta_Retain_Embed (v : Value) (w : World) : (Instr.typeAssert (.iface 113 v) 109 194 true).run Tryz.prog w = .ok (.tuple #[.agg #[.slice none 0 0, .string ⟨#[]⟩, .nilIface], .bool false]) w := by kernel_rfl
theorem ta_Retain_Retain (v : Value) (w : World) : (Instr.typeAssert (.iface 113 v) 109 113 true).run Tryz.prog w = .ok (.tuple #[v, .bool true]) w := by kernel_rfl
theorem ta_Retain_Delete (v : Value) (w : World) : (Instr.typeAssert (.iface 113 v) 109 118 true).run Tryz.prog w = .ok (.tuple #[.agg #[.int .i64 0], .bool false]) w := by kernel_rfl
theorem ta_Delete_Insert (v : Value) (w : World) : (Instr.typeAssert (.iface 118 v) 109 190 true).run Tryz.prog w = .ok (.tuple #[.agg #[.slice none 0 0, .string ⟨#[]⟩, .int .i64 0], .bool false]) w := by kernel_rfl
theorem ta_Delete_Embed (v : Value) (w : World) : (Instr.typeAssert (.iface 118 v) 109 194 true).run Tryz.prog w = .ok (.tuple #[.agg #[.slice none 0 0, .string ⟨#[]⟩, .nilIface], .bool false]) w := by kernel_rfl
theorem ta_Delete_Retain (v : Value) (w : World) : (Instr.typeAssert (.iface 118 v) 109 113 true).run Tryz.prog w = .ok (.tuple #[.agg #[.slice none 0 0, .int .i64 0], .bool false]) w := by kernel_rfl
theorem ta_Delete_Delete (v : Value) (w : World) : (Instr.typeAssert (.iface 118 v) 109 118 true).run Tryz.prog w = .ok (.tuple #[v, .bool true]) w := by kernel_rfl
attribute [go_sem] ta_Insert_Insert ta_Insert_Embed ta_Insert_Retain ta_Insert_Delete ta_Embed_Insert ta_Embed_Embed ta_Embed_Retain ta_Embed_Delete ta_Retain_Insert ta_Retain_Embed ta_Retain_Retain ta_Retain_Delete ta_Delete_Insert ta_Delete_Embed ta_Delete_Retain ta_Delete_Delete
/-- An operation as a value. -/
def opV (o : Op) (v : Value) : Value := .agg #[.int .i64 o.kind, .string o.text, .int .i64 o.val.kind, .int .i64 o.val.num, .string o.val.text, .int .i64 o.count, v]
/-- A piece whose value may be told. -/
def Piece.good : Piece → Prop
  | .emb _ _ x => kindOk x = true
  | _ => True
/-- The method Op of a piece. -/
theorem op_meth {w : World} {p : Piece} {v : Value} (h : PieceV w p v) (hg : p.good) : ∃ T y f, v = .iface T y ∧ (∀ d w, (method (d + 1) T y "Op").run Tryz.prog w = .ok (f, y) w) ∧ (∀ args w, (callFunc f args).run Tryz.prog w = .ok (.enter f args) w) ∧
    (∀ w', Gr w w' → Calls Tryz.prog f #[y] w' fun e w'' => ∃ v', e = .returned (opV p.op v') ∧ OwnL AttrR 4 w'.heap.size 176 w'' v' p.attrs ∧ Gr w' w'') := by
  cases p with
  | ins l t n =>
    obtain ⟨sl, rfl, h, -⟩ := h
    exact ⟨_, _, _, rfl, fun d w => meth_Insert_Op d _ _ _ w, enters_of Tryz.func228 (by kernel_rfl) rfl, fun w' g => insOp_any _ _ _ _ w' (RdAttrs.gr h.rd g)⟩
  | emb l t x =>
    obtain ⟨sl, rfl, h, -⟩ := h
    exact ⟨_, _, _, rfl, fun d w => meth_Embed_Op d _ _ _ w, enters_of Tryz.func230 (by kernel_rfl) rfl, fun w' g => embOp_any _ _ _ _ w' (RdAttrs.gr h.rd g) hg⟩
  | ret l n =>
    obtain ⟨sl, rfl, h⟩ := h
    exact ⟨_, _, _, rfl, fun d w => meth_Retain_Op d _ _ w, enters_of Tryz.func225 (by kernel_rfl) rfl, fun w' g => retOp_any _ _ _ w' (RdAttrs.gr h.rd g)⟩
  | del n =>
    obtain rfl := h
    exact ⟨_, _, _, rfl, fun d w => meth_Delete_Op d _ w, enters_of Tryz.func147 (by kernel_rfl) rfl, fun w' g => (delOp_any n w').mono fun e w'' h => ⟨_, h.1, OwnL.nil .., h.2⟩⟩
def pcT (t : TypeId) : Bool := t == 109
theorem Kg.pc_bld {S : Nat → Prop} {w w' : World} (h : Kg S pcT w w') : Kg S bldT w w' := h.mono fun t ht => by simp [pcT] at ht; simp [bldT, ht]
theorem Kg.b_bld {S : Nat → Prop} {w w' : World} (h : Kg S bT w w') : Kg S bldT w w' := h.mono fun t ht => by simp [bT] at ht; simp [bldT, ht]
/-- An append of one piece. -/
theorem push_piece' (w : World) (S : Nat → Prop) (ty : TypeId) {v : Value} {l : List Piece} {p : Piece} {pv : Value} (hown : OwnF S w v l) (hx : PieceV w p pv) (hm : l.length + 1 ≤ 1099511627776) (hb : ∀ b, w.heap.size ≤ b → S b) :
    ∃ v' w', (Builtin.append_ #[95, 95] ty #[v, .slice (some ⟨w.heap.size, 0, none⟩) 1 1]).run Tryz.prog (w.alloc (.cells #[pv] 109)) = .ok v' w' ∧ OwnF S w' v' (l ++ [p]) ∧ Kg S pcT w w' := by
  obtain ⟨v', w', h1, h2, h3, h4, h5, h6, h7⟩ := push_piece w 0 ty hown.1 hx hm (Nat.zero_le _)
  obtain ⟨⟨xs, ho, hr⟩, hS⟩ := hown
  exact ⟨v', w', h1, ⟨h2, fun b hb' => (h7 b hb').elim (hS b) (hb b)⟩, Kg.of_own_alloc ho (by decide) hS h3⟩
/-- The same, as a step of a walk. -/
theorem wp_push {w : World} {S : Nat → Prop} {ops : Array Oper} {rest : List Oper} {o : Oper} {act : Act} {Q : Exit → Act → World → Prop} (hgd : o.guard = none) (s x : Operand)
    (ho : o.op = .call { callee := .builtin .append, args := #[s, x], argTypes := #[95, 95] }) {v pv : Value} {l : List Piece} (p : Piece) (hs : act.eval s = v) {i : Nat} (hx : act.eval x = .slice (some ⟨i, 0, none⟩) 1 1)
    (hown : OwnF S w v l) (hp : PieceV w p pv) (hm : l.length + 1 ≤ 1099511627776) (hb : ∀ b, w.heap.size ≤ b → S b) (hi : i = w.heap.size)
    (h : ∀ v' w', OwnF S w' v' (l ++ [p]) → Kg S pcT w w' → wpList Tryz.prog ops Q rest (act.put o.dst v') w') : wpList Tryz.prog ops Q (o :: rest) act (w.alloc (.cells #[pv] 109)) := by
  obtain ⟨v', w', h1, h2, h3⟩ := push_piece' w S o.type hown hp hm hb
  subst hi
  exact wpList_run hgd s x _ ho hs hx h1 (h v' w' h2 h3)
set_option maxHeartbeats 400000 in
theorem deleted_f (S : Nat → Prop) (l : List Piece) (v : Value) (gone : Int) (w : World) (hl : OwnF S w v l) (hb : ∀ b, w.heap.size ≤ b → S b) (hm : l.length + 1 ≤ 1099511627776) :
    Calls Tryz.prog 123 #[v, .int .i64 gone] w fun e w' => ∃ v', e = .returned v' ∧ OwnF S w' v' (deletedL l gone) ∧ Kg S pcT w w' := by
  by_cases h0 : gone = 0
  · subst h0
    obtain ⟨a, n, c, rfl, -, -, -⟩ := hl.sl
    go_enter Tryz.func123, Tryz.ntmps123
    go_wp2
    go_ret
    exact ⟨_, rfl, by simpa [deletedL] using hl, Kg.refl _⟩
  · obtain ⟨v', w', hrun, hown, hk⟩ := push_piece' w S 95 (p := .del gone) hl rfl hm hb
    obtain ⟨a, n, c, rfl, -, -, -⟩ := hl.sl
    have HH := Lib.hid (And.intro hrun (And.intro hown hk)); clear hrun hown hk
    go_enter Tryz.func123, Tryz.ntmps123
    go_wp2_with (at_builtin; refine wpList_run rfl _ _ _ rfl rfl rfl HH.out.1 ?_)
    go_ret
    exact ⟨_, rfl, by simpa [deletedL, h0] using HH.out.2.1, HH.out.2.2⟩
theorem deleted_any (base : Nat) (l : List Piece) (v : Value) (gone : Int) (w : World) (hl : OwnL PieceR 1 base 109 w v l) (hb : base ≤ w.heap.size) (hm : l.length + 1 ≤ 1099511627776) :
    Calls Tryz.prog 123 #[v, .int .i64 gone] w fun e w' => ∃ v', e = .returned v' ∧ OwnL PieceR 1 base 109 w' v' (deletedL l gone) ∧ Kg (Fr base) pcT w w' :=
  (deleted_f (Fr base) l v gone w (OwnF.of_own hl) (fun _ h => Nat.le_trans hb h) hm).mono fun _ _ ⟨v', e, h, k⟩ => ⟨v', e, h.own, k⟩
set_option maxHeartbeats 400000 in
theorem cloneP_any (l : List Piece) (v : Value) (w : World) (hl : RdPieces w v l) :
    Calls Tryz.prog 129 #[v] w fun e w' => ∃ v', e = .returned v' ∧ OwnL PieceR 1 w.heap.size 109 w' v' l ∧ Gr w w' := by
  obtain ⟨a, cap, rfl, -, -, hb⟩ := hl.slice
  cases a with
  | none =>
    obtain rfl := hl.none_nil
    clear hl hb
    go_enter Tryz.func129, Tryz.ntmps129
    go_wp2
    go_ret
    exact ⟨_, rfl, OwnL.nil .., Gr.refl _⟩
  | some a =>
    obtain ⟨v', w', hrun, hown, hg, hw⟩ := run_appL (P := Tryz.prog) (w.alloc (.cells #[] 109)) w.heap.size 95 95 109 _ 1 16 Tryz.underlying95 info_piece rfl (by omega) (by omega) (PieceR.flat _)
      (OwnL.made w PieceR 1 w.heap.size 109 (Nat.le_refl _)) (RdPieces.gr hl (by repeat (with_reducible first | assumption | exact Gr.refl _ | apply Gr.alloc | apply Gr.drewN | apply Gr.drew | apply Gr.iter | (refine Gr.setCell ?_ (by simp) _) | (refine Gr.trans ?_ (by assumption))))) (by simpa using hb) (by simp)
      (fun w' y cs hgb h => by
        obtain ⟨xs, ho, -⟩ := OwnL.made w PieceR 1 w.heap.size 109 (Nat.le_refl _)
        exact PieceR.kg h (Kg.of_own (S := Fr w.heap.size) (E := pcT) ho (by decide) (own_fr ho) hgb) (by decide))
    have Hg := Lib.hid (And.intro hg hw); clear hg hw
    have Ho := Lib.hid hown; clear hown
    have HH := Lib.hid hrun; clear hrun
    go_enter Tryz.func129, Tryz.ntmps129
    go_wp2_with (at_builtin; refine wpList_run rfl _ _ _ rfl rfl rfl HH.out ?_)
    go_ret
    exact ⟨_, rfl, Ho.out, ((Gr.refl w).alloc _).grown Hg.out.1 (by simp [Value.ownBlock])⟩
set_option maxHeartbeats 400000 in
theorem new_any (w : World) :
    Calls Tryz.prog 77 #[] w fun e w' => e = .returned (.pointer (some ⟨w.heap.size, 0, none⟩)) ∧ BldR w.heap.size w' w.heap.size .new ∧ Gr w w' := by
  go_enter Tryz.func77, Tryz.ntmps77
  go_wp2
  go_ret
  exact ⟨rfl, ⟨Nat.le_refl _, _, Blk.new _ _ _, OwnF.nil ..⟩, (by repeat (with_reducible first | assumption | exact Gr.refl _ | apply Gr.alloc | apply Gr.drewN | apply Gr.drew | apply Gr.iter | (refine Gr.setCell ?_ (by simp) _) | (refine Gr.trans ?_ (by assumption))))⟩
set_option maxHeartbeats 400000 in
theorem empty_any (w : World) :
    Calls Tryz.prog 41 #[] w fun e w' => ∃ v, e = .returned v ∧ DeltaR w' v [] ∧ Gr w w' := by
  go_enter Tryz.func41, Tryz.ntmps41
  go_wp2
  go_ret
  exact ⟨_, rfl, ⟨_, _, rfl, Blk.new _ _ _, RdList.nil ..⟩, (by repeat (with_reducible first | assumption | exact Gr.refl _ | apply Gr.alloc | apply Gr.drewN | apply Gr.drew | apply Gr.iter | (refine Gr.setCell ?_ (by simp) _) | (refine Gr.trans ?_ (by assumption))))⟩
end Ve
