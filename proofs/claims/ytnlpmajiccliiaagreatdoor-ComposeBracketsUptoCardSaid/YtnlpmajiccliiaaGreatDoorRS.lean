import Derived.Test.YtnlpmajiccliiaaGreatDoorRO
set_option linter.all false
/- Walks: vellumlaw07.lives. -/
namespace Ve
open Go Go.RowKit Go.Proofs Go.Shelf

attribute [local go_sem] Oper.semAt_some

theorem func_nil1 (f : Nat) (b : Array Value) (w : World) : (binOp .eql 106 (.func (.func f) #[] b) .nilFunc).run Tryz.prog w = .ok (.bool false) w := by kernel_rfl
theorem func_nil2 (f : Nat) (b : Array Value) (w : World) : (binOp .eql 143 (.func (.func f) #[] b) .nilFunc).run Tryz.prog w = .ok (.bool false) w := by kernel_rfl
attribute [local go_sem] func_nil1 func_nil2

end Ve
/- Walks: two lists gathered side by side, in memory; a piece's methods in later worlds. -/
namespace Ve
open Go Go.RowKit Go.Proofs Go.Shelf

/-- append, shut: so that a walk looks for what is known of its run. -/
def appShut (ats : Array TypeId) (ty : TypeId) (args : Array Value) : Sem Value := Builtin.append_ ats ty args
theorem append_shut (ats : Array TypeId) (ty : TypeId) (args : Array Value) : Builtin.append_ ats ty args = appShut ats ty args := rfl
attribute [irreducible] appShut
theorem field_kind (k : Int) (t : ByteArray) (va vb : Int) (vt : ByteArray) (c : Int) (sl : Value) (w : World) : (Instr.field 65 (.agg #[.int .i64 k, .string t, .int .i64 va, .int .i64 vb, .string vt, .int .i64 c, sl]) 0).run Tryz.prog w = .ok (.int .i64 k) w := by kernel_rfl
theorem undef_bool (b : Bool) : undef = Value.bool b ↔ False := ⟨fun h => (by unfold undef at h; cases h), False.elim⟩
theorem undef_iface (t : TypeId) (v : Value) : undef = Value.iface t v ↔ False := ⟨fun h => (by unfold undef at h; cases h), False.elim⟩
theorem KeepsOthers.of_tn {Wr : Nat → Option TypeId → Prop} {w w' : World} (h : Tn Wr w w') (hw : ∀ b, ¬ Wr b none) : KeepsOthers w w' :=
  ⟨h.size, fun k o hk ho => h.blk k o hk (by rw [tyO_none ho]; exact hw k)⟩
theorem OpO.tn {Wr : Nat → Option TypeId → Prop} {w w' : World} {x : Op} {cs : List Value} (h : OpO w x cs) (g : Tn Wr w w') (h1 : ∀ b, ¬ Wr b (some 176)) : OpO w' x cs := by
  obtain ⟨v, e, hr, hs⟩ := h
  exact ⟨v, e, hr.tn g fun b _ => h1 b, hs⟩
theorem OwnOps.tn {Wr : Nat → Option TypeId → Prop} {base : Nat} {w w' : World} {v : Value} {l : List Op} (h : OwnOps base w v l) (g : Tn Wr w w') (h1 : ∀ b, ¬ Wr b (some 176)) (h2 : ∀ b, v.ownBlock = some b → ¬ Wr b (some 65)) : OwnOps base w' v l :=
  OwnL.tn (w := w) h (fun _ _ h => OpO.tn (w := w) h g h1) g h2
/-- What gathering a list may turn. -/
def sdW (H b : Nat) (t : Option TypeId) : Prop := H ≤ b ∧ (t = some 65 ∨ t = some 22)
/-- Two boxes L, R that hold two lists of operations of one's own. -/
structure SdB (H L R : Nat) (l m : List Op) (lv rv : Value) (w : World) : Prop where
  bl : Blk w L 22 #[lv]
  br : Blk w R 22 #[rv]
  ol : OwnOps H w lv l
  or_ : OwnOps H w rv m
  ne : L ≠ R
  hl : H ≤ L
  hr : H ≤ R
  dis : ∀ b, lv.ownBlock = some b → rv.ownBlock ≠ some b
theorem SdB.eq {H L R : Nat} {l m l' m' : List Op} {lv rv : Value} {w : World} (h : SdB H L R l m lv rv w) (e1 : l' = l) (e2 : m' = m) : SdB H L R l' m' lv rv w := by subst e1 e2; exact h
theorem SdB.symm {H L R : Nat} {l m : List Op} {lv rv : Value} {w : World} (h : SdB H L R l m lv rv w) : SdB H R L m l rv lv w :=
  ⟨h.br, h.bl, h.or_, h.ol, h.ne.symm, h.hr, h.hl, fun b h1 h2 => h.dis b h2 h1⟩
theorem SdB.gr {H L R : Nat} {l m : List Op} {lv rv : Value} {w w' : World} (h : SdB H L R l m lv rv w) (g : Gr w w') : SdB H L R l m lv rv w' :=
  ⟨h.bl.gr g, h.br.gr g, h.ol.gr g, h.or_.gr g, h.ne, h.hl, h.hr, h.dis⟩
theorem SdB.tn {Wr : Nat → Option TypeId → Prop} {H L R : Nat} {l m : List Op} {lv rv : Value} {w w' : World} (h : SdB H L R l m lv rv w) (g : Tn Wr w w') (h1 : ∀ b, ¬ Wr b (some 176)) (h2 : ∀ b, ¬ Wr b (some 65)) (h3 : ∀ b, ¬ Wr b (some 22)) : SdB H L R l m lv rv w' :=
  ⟨h.bl.tn g (h3 _), h.br.tn g (h3 _), h.ol.tn g h1 fun b _ => h2 b, h.or_.tn g h1 fun b _ => h2 b, h.ne, h.hl, h.hr, h.dis⟩
/-- An operation appended to the left list, and the box written. -/
theorem SdB.push {H L R : Nat} {l m : List Op} {lv rv : Value} {w : World} (h : SdB H L R l m lv rv w) (o : Op) (sl : Value) (hx : OwnA w sl o.attrs) (h1 : szS o.text) (h2 : szS o.val.text) (hm : l.length + 1 ≤ 1099511627776) (hb : H ≤ w.heap.size) :
    ∃ v' w', (appShut #[22, 22] 22 #[lv, .slice (some ⟨w.heap.size, 0, none⟩) 1 1]).run Tryz.prog (w.alloc (.cells #[.int .i64 o.kind, .string o.text, .int .i64 o.val.kind, .int .i64 o.val.num, .string o.val.text, .int .i64 o.count, sl] 65)) = .ok v' w' ∧
      Blk w' L 22 #[lv] ∧ SdB H L R (l ++ [o]) m v' rv (w'.setCell ⟨L, 0, none⟩ v') ∧ Tn (sdW H) w (w'.setCell ⟨L, 0, none⟩ v') ∧ ∃ a n c, v' = .slice a n c ∧ n = l.length + 1 := by
  obtain ⟨v', w', r1, r2, r3, r4⟩ := push_opF w H 22 o sl h.ol hx h1 h2 hm hb
  rw [append_shut] at r1
  have hlow := own_fr h.ol.choose_spec.1
  have hlt := OwnL.lt_ h.or_
  have t1 : Tn (fun b t => lv.ownBlock = some b ∧ t = some 65) w w' := Tn.of_kg r3 fun b t hb ht => ⟨hb, by unfold opT at ht; rw [beq_iff_eq.1 ht]⟩
  have bl' := h.bl.tn t1 fun hh => by have := hh.2; injection this with this; exact absurd this (by decide)
  have br' := h.br.tn t1 fun hh => by have := hh.2; injection this with this; exact absurd this (by decide)
  have or' := h.or_.tn t1 (fun b hh => by have := hh.2; injection this with this; exact absurd this (by decide)) fun b hb hh => h.dis b hh.1 hb
  have t2 : Tn (fun b t => b = L ∧ t = some 22) w' (w'.setCell ⟨L, 0, none⟩ v') := Tn.set bl' ⟨rfl, rfl⟩ 0 v'
  refine ⟨v', w', r1, bl', ⟨bl'.set 0 v', br'.far (hp := by simpa using h.ne.symm) v', r2.tn t2 ?_ ?_, or'.tn t2 ?_ ?_, h.ne, h.hl, h.hr, ?_⟩, (t1.mono ?_).trans (t2.mono ?_), ?_⟩
  · intro b hh; have := hh.2; injection this with this; exact absurd this (by decide)
  · intro b _ hh; have := hh.2; injection this with this; exact absurd this (by decide)
  · intro b hh; have := hh.2; injection this with this; exact absurd this (by decide)
  · intro b _ hh; have := hh.2; injection this with this; exact absurd this (by decide)
  · intro b hb hr
    rcases r4 b hb with h' | h'
    · exact h.dis b h' hr
    · have := (hlt b hr).2; omega
  · rintro b t ⟨hb, rfl⟩; exact ⟨hlow b hb, .inl rfl⟩
  · rintro b t ⟨rfl, rfl⟩; exact ⟨h.hl, .inr rfl⟩
  · obtain ⟨a, cap, e, -⟩ := r2.slice
    exact ⟨a, _, cap, e, by simp⟩
/-- A piece's Op in whatever world its value is known. -/
theorem op_methV {w : World} {p : Piece} {v : Value} (h : PieceV w p v) (hg : p.good) : ∃ T y f, v = .iface T y ∧ (∀ d w, (method (d + 1) T y "Op").run Tryz.prog w = .ok (f, y) w) ∧ (∀ args w, (callFunc f args).run Tryz.prog w = .ok (.enter f args) w) ∧
    (∀ w', PieceV w' p v → Calls Tryz.prog f #[y] w' fun e w'' => ∃ v', e = .returned (opV p.op v') ∧ OwnL AttrR 4 w'.heap.size 176 w'' v' p.attrs ∧ Gr w' w'') := by
  obtain ⟨T, y, f, rfl, hm, he, -⟩ := op_meth h hg
  refine ⟨T, y, f, rfl, hm, he, fun w' h' => ?_⟩
  obtain ⟨T2, y2, f2, e2, hm2, -, hc⟩ := op_meth h' hg
  injection e2 with e2 e3
  subst e2 e3
  have : f = f2 := by
    have := (hm 0 w).symm.trans (hm2 0 w)
    simpa using this
  subst this
  exact hc w' (Gr.refl w')
end Ve
