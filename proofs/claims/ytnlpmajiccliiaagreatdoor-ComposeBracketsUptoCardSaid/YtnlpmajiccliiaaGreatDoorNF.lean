import Derived.Test.YtnlpmajiccliiaaGreatDoorNC
import Derived.Test.YtnlpmajiccliiaaGreatDoorNB
import Derived.Test.YtnlpmajiccliiaaGreatDoorL0
import Derived.Test.YtnlpmajiccliiaaGreatDoorB1
import Derived.Test.YtnlpmajiccliiaaGreatDoorMC
import Derived.Stop.Asserts
import Derived.Test.YtnlpmajiccliiaaGreatDoorRS
set_option linter.all false
/- Walks of layer 11: bears, together. -/
namespace Ve
open Go Go.RowKit Go.Proofs

theorem meth_Insert_Attributes (d : Nat) (a b c : Value) (w : World) : (method (d + 1) 190 (.agg #[a, b, c]) "Attributes").run Tryz.prog w = .ok (196, .agg #[a]) w := by kernel_rfl
theorem meth_Embed_Attributes (d : Nat) (a b c : Value) (w : World) : (method (d + 1) 194 (.agg #[a, b, c]) "Attributes").run Tryz.prog w = .ok (196, .agg #[a]) w := by kernel_rfl
theorem meth_Retain_Attributes (d : Nat) (a b : Value) (w : World) : (method (d + 1) 113 (.agg #[a, b]) "Attributes").run Tryz.prog w = .ok (196, .agg #[a]) w := by kernel_rfl
theorem ta_Insert_Bearer (v : Value) (w : World) : (Instr.typeAssert (.iface 190 v) 109 204 true).run Tryz.prog w = .ok (.tuple #[.iface 190 v, .bool true]) w := by kernel_rfl
theorem ta_Embed_Bearer (v : Value) (w : World) : (Instr.typeAssert (.iface 194 v) 109 204 true).run Tryz.prog w = .ok (.tuple #[.iface 194 v, .bool true]) w := by kernel_rfl
theorem ta_Retain_Bearer (v : Value) (w : World) : (Instr.typeAssert (.iface 113 v) 109 204 true).run Tryz.prog w = .ok (.tuple #[.iface 113 v, .bool true]) w := by kernel_rfl
theorem ta_Delete_Bearer (v : Value) (w : World) : (Instr.typeAssert (.iface 118 v) 109 204 true).run Tryz.prog w = .ok (.tuple #[.nilIface, .bool false]) w :=
  run_typeAssert_lacksB Tryz.underlying204 (by kernel_rfl) (by kernel_rfl) v _ w
attribute [local go_sem] ta_Insert_Bearer ta_Embed_Bearer ta_Retain_Bearer ta_Delete_Bearer meth_Insert_Attributes meth_Embed_Attributes meth_Retain_Attributes

set_option maxHeartbeats 1000000 in
theorem bears_any (p : Piece) (pv : Value) (w : World) (hp : PieceV w p pv) :
    Calls Tryz.prog 149 #[pv] w fun e w' => ∃ v', e = .returned v' ∧ OwnL AttrR 4 w.heap.size 176 w' v' p.attrs ∧ Gr w w' := by
  cases p with
  | ins l t n =>
    obtain ⟨sl, rfl, h, -⟩ := hp
    obtain ⟨a, m, c, rfl, -⟩ := h.1.sl
    go_enter Tryz.func149, Tryz.ntmps149
    go_wp2_with (go_at_call 196; refine (attrs_any l _ _ (RdAttrs.gr h.rd (by repeat (with_reducible first | assumption | exact Gr.refl _ | apply Gr.alloc | apply Gr.drewN | apply Gr.drew | apply Gr.iter | (refine Gr.setCell ?_ (by simp) _) | (refine Gr.trans ?_ (by assumption)))))).mono ?_; rintro e w1 ⟨v1, rfl, hO1, hg1⟩; obtain ⟨x1, x2, x3, rfl, -⟩ := hO1.sl)
    go_ret
    exact ⟨_, rfl, hO1, (by repeat (with_reducible first | assumption | exact Gr.refl _ | apply Gr.alloc | apply Gr.drewN | apply Gr.drew | apply Gr.iter | (refine Gr.setCell ?_ (by simp) _) | (refine Gr.trans ?_ (by assumption))))⟩
  | emb l t x =>
    obtain ⟨sl, rfl, h, -⟩ := hp
    obtain ⟨a, m, c, rfl, -⟩ := h.1.sl
    go_enter Tryz.func149, Tryz.ntmps149
    go_wp2_with (go_at_call 196; refine (attrs_any l _ _ (RdAttrs.gr h.rd (by repeat (with_reducible first | assumption | exact Gr.refl _ | apply Gr.alloc | apply Gr.drewN | apply Gr.drew | apply Gr.iter | (refine Gr.setCell ?_ (by simp) _) | (refine Gr.trans ?_ (by assumption)))))).mono ?_; rintro e w1 ⟨v1, rfl, hO1, hg1⟩; obtain ⟨x1, x2, x3, rfl, -⟩ := hO1.sl)
    go_ret
    exact ⟨_, rfl, hO1, (by repeat (with_reducible first | assumption | exact Gr.refl _ | apply Gr.alloc | apply Gr.drewN | apply Gr.drew | apply Gr.iter | (refine Gr.setCell ?_ (by simp) _) | (refine Gr.trans ?_ (by assumption))))⟩
  | ret l n =>
    obtain ⟨sl, rfl, h⟩ := hp
    obtain ⟨a, m, c, rfl, -⟩ := h.1.sl
    go_enter Tryz.func149, Tryz.ntmps149
    go_wp2_with (go_at_call 196; refine (attrs_any l _ _ (RdAttrs.gr h.rd (by repeat (with_reducible first | assumption | exact Gr.refl _ | apply Gr.alloc | apply Gr.drewN | apply Gr.drew | apply Gr.iter | (refine Gr.setCell ?_ (by simp) _) | (refine Gr.trans ?_ (by assumption)))))).mono ?_; rintro e w1 ⟨v1, rfl, hO1, hg1⟩; obtain ⟨x1, x2, x3, rfl, -⟩ := hO1.sl)
    go_ret
    exact ⟨_, rfl, hO1, (by repeat (with_reducible first | assumption | exact Gr.refl _ | apply Gr.alloc | apply Gr.drewN | apply Gr.drew | apply Gr.iter | (refine Gr.setCell ?_ (by simp) _) | (refine Gr.trans ?_ (by assumption))))⟩
  | del n =>
    obtain rfl := hp
    go_enter Tryz.func149, Tryz.ntmps149
    go_wp2
    go_ret
    exact ⟨_, rfl, OwnL.nil .., (by repeat (with_reducible first | assumption | exact Gr.refl _ | apply Gr.alloc | apply Gr.drewN | apply Gr.drew | apply Gr.iter | (refine Gr.setCell ?_ (by simp) _) | (refine Gr.trans ?_ (by assumption))))⟩

theorem callsAt {P : Program} {f : FuncId} {args : Array Value} {w : World} {R : Ending → World → Prop} (h : ∀ W, w = W → Calls P f args W R) : Calls P f args w R := h w rfl
theorem Blk.newAt {w : World} {e : TypeId} {cs : Array Value} {g : Nat} (h : w.heap.size = g) : Blk (w.alloc (.cells cs e)) g e cs := h ▸ Blk.new w e cs

/-- What together answers. -/
def TogR (p q : Piece) (w : World) (e : Ending) (w' : World) : Prop :=
  ∃ (o : Op) (sl : Value) (ok : Bool), e = .returned (.tuple #[opV o sl, .bool ok, .nilIface]) ∧ bothP p q = (if ok = true then [o] else []) ∧ OwnL AttrR 4 w.heap.size 176 w' sl o.attrs ∧ szS o.text ∧ szS o.val.text ∧ Gr w w'
set_option maxHeartbeats 4000000 in
theorem together_del (p : Piece) (n : Int) (pv : Value) (w : World) (hp : PieceV w p pv) (h4 : p.k ≠ 4) :
    Calls Tryz.prog 112 #[pv, .iface 118 (.agg #[.int .i64 n])] w (TogR p (.del n) w) := by
  unfold TogR
  have b4 := Blk.new w 65 #[.int .i64 0, .string ⟨#[]⟩, .int .i64 0, .int .i64 0, .string ⟨#[]⟩, .int .i64 0, .slice none 0 0]
  cases p with
  | ins l t m =>
    obtain ⟨sl, rfl, h, -⟩ := hp
    obtain ⟨a, m', c, rfl, -⟩ := h.1.sl
    go_enter Tryz.func112, Tryz.ntmps112
    go_wp2_with ((go_at_call 147; refine callsAt ?_; intro W hW; (have hgW : Gr w W := by (subst hW; exact (by repeat (with_reducible first | assumption | exact Gr.refl _ | apply Gr.alloc | apply Gr.drewN | apply Gr.drew | apply Gr.iter | (refine Gr.setCell ?_ (by simp) _) | (refine Gr.trans ?_ (by assumption)))))); (have B4 : Blk W w.heap.size 65 #[.int .i64 0, .string ⟨#[]⟩, .int .i64 0, .int .i64 0, .string ⟨#[]⟩, .int .i64 0, .slice none 0 0] := by (subst hW; (repeat (with_reducible first | assumption | apply Blk.set | (apply Blk.far (hp := by simp; omega)) | apply Blk.alloc | apply Blk.drewN | apply Blk.drew | (apply Blk.gr (hg := by assumption)) | (apply Blk.kg (k := by assumption) (hne := by decide)))))); clear hW; refine (delOp_any n W).mono ?_; rintro e w1 ⟨rfl, hg1⟩; have B5 := B4.gr hg1; have hg5 := Gr.trans hgW hg1; have c5 := B5.cell; have f5 := B5.frozen; have z5 := B5.lt))
    have T1 := B5.set7M (.int .i64 4) (.string ⟨#[]⟩) (.int .i64 0) (.int .i64 0) (.string ⟨#[]⟩) (.int .i64 n) (.slice none 0 0)
    have y1 := T1.cell
    refine bodyPost_ret (v := .tuple #[.agg #[.int .i64 4, .string ⟨#[]⟩, .int .i64 0, .int .i64 0, .string ⟨#[]⟩, .int .i64 n, .slice none 0 0], .bool false, .nilIface]) (by simp [results, Tryz.results112, go_sem, y1]; done) rfl ⟨⟨4, es, ep, n, []⟩, .slice none 0 0, false, rfl, rfl, OwnL.nil .., by simp only [szS]; decide, by simp only [szS]; decide, ?_⟩
    exact gr7M hg5 (Nat.le_refl _) _ _ _ _ _ _ _
  | emb l t x =>
    obtain ⟨sl, rfl, h, -⟩ := hp
    obtain ⟨a, m', c, rfl, -⟩ := h.1.sl
    go_enter Tryz.func112, Tryz.ntmps112
    go_wp2_with ((go_at_call 147; refine callsAt ?_; intro W hW; (have hgW : Gr w W := by (subst hW; exact (by repeat (with_reducible first | assumption | exact Gr.refl _ | apply Gr.alloc | apply Gr.drewN | apply Gr.drew | apply Gr.iter | (refine Gr.setCell ?_ (by simp) _) | (refine Gr.trans ?_ (by assumption)))))); (have B4 : Blk W w.heap.size 65 #[.int .i64 0, .string ⟨#[]⟩, .int .i64 0, .int .i64 0, .string ⟨#[]⟩, .int .i64 0, .slice none 0 0] := by (subst hW; (repeat (with_reducible first | assumption | apply Blk.set | (apply Blk.far (hp := by simp; omega)) | apply Blk.alloc | apply Blk.drewN | apply Blk.drew | (apply Blk.gr (hg := by assumption)) | (apply Blk.kg (k := by assumption) (hne := by decide)))))); clear hW; refine (delOp_any n W).mono ?_; rintro e w1 ⟨rfl, hg1⟩; have B5 := B4.gr hg1; have hg5 := Gr.trans hgW hg1; have c5 := B5.cell; have f5 := B5.frozen; have z5 := B5.lt))
    have T1 := B5.set7M (.int .i64 4) (.string ⟨#[]⟩) (.int .i64 0) (.int .i64 0) (.string ⟨#[]⟩) (.int .i64 n) (.slice none 0 0)
    have y1 := T1.cell
    refine bodyPost_ret (v := .tuple #[.agg #[.int .i64 4, .string ⟨#[]⟩, .int .i64 0, .int .i64 0, .string ⟨#[]⟩, .int .i64 n, .slice none 0 0], .bool false, .nilIface]) (by simp [results, Tryz.results112, go_sem, y1]; done) rfl ⟨⟨4, es, ep, n, []⟩, .slice none 0 0, false, rfl, rfl, OwnL.nil .., by simp only [szS]; decide, by simp only [szS]; decide, ?_⟩
    exact gr7M hg5 (Nat.le_refl _) _ _ _ _ _ _ _
  | ret l m =>
    obtain ⟨sl, rfl, h⟩ := hp
    obtain ⟨a, m', c, rfl, -⟩ := h.1.sl
    go_enter Tryz.func112, Tryz.ntmps112
    go_wp2_with ((go_at_call 147; refine callsAt ?_; intro W hW; (have hgW : Gr w W := by (subst hW; exact (by repeat (with_reducible first | assumption | exact Gr.refl _ | apply Gr.alloc | apply Gr.drewN | apply Gr.drew | apply Gr.iter | (refine Gr.setCell ?_ (by simp) _) | (refine Gr.trans ?_ (by assumption)))))); (have B4 : Blk W w.heap.size 65 #[.int .i64 0, .string ⟨#[]⟩, .int .i64 0, .int .i64 0, .string ⟨#[]⟩, .int .i64 0, .slice none 0 0] := by (subst hW; (repeat (with_reducible first | assumption | apply Blk.set | (apply Blk.far (hp := by simp; omega)) | apply Blk.alloc | apply Blk.drewN | apply Blk.drew | (apply Blk.gr (hg := by assumption)) | (apply Blk.kg (k := by assumption) (hne := by decide)))))); clear hW; refine (delOp_any n W).mono ?_; rintro e w1 ⟨rfl, hg1⟩; have B5 := B4.gr hg1; have hg5 := Gr.trans hgW hg1; have c5 := B5.cell; have f5 := B5.frozen; have z5 := B5.lt))
    have T1 := B5.set7M (.int .i64 4) (.string ⟨#[]⟩) (.int .i64 0) (.int .i64 0) (.string ⟨#[]⟩) (.int .i64 n) (.slice none 0 0)
    have y1 := T1.cell
    refine bodyPost_ret (v := .tuple #[.agg #[.int .i64 4, .string ⟨#[]⟩, .int .i64 0, .int .i64 0, .string ⟨#[]⟩, .int .i64 n, .slice none 0 0], .bool true, .nilIface]) (by simp [results, Tryz.results112, go_sem, y1]; done) rfl ⟨⟨4, es, ep, n, []⟩, .slice none 0 0, true, rfl, rfl, OwnL.nil .., by simp only [szS]; decide, by simp only [szS]; decide, ?_⟩
    exact gr7M hg5 (Nat.le_refl _) _ _ _ _ _ _ _
  | del m => exact absurd rfl h4
set_option maxHeartbeats 8000000 in
theorem together_ret {ea : Nat → Addr} (p : Piece) (l2 : List Attr) (n : Int) (pv : Value) (sl2 : Value) (w : World) (hE : Env ea w) (hp : PieceV w p pv) (hq : OwnA w sl2 l2) (hpk : pOk p) (h2 : checkAttrs true l2 = 0) (h4 : p.k ≠ 4) (hN : p.attrs.length + l2.length ≤ 1099511627776) (hN2 : (compA (isRetP p) p.attrs l2).length ≤ 1099511627776) :
    Calls Tryz.prog 112 #[pv, .iface 113 (.agg #[sl2, .int .i64 n])] w (TogR p (.ret l2 n) w) := by
  unfold TogR
  have b4 := Blk.new w 65 #[.int .i64 0, .string ⟨#[]⟩, .int .i64 0, .int .i64 0, .string ⟨#[]⟩, .int .i64 0, .slice none 0 0]
  obtain ⟨qa, qm, qc, rfl, -⟩ := hq.1.sl
  have hgood : p.good := PsOk.good (ps := [p]) (fun x hx => by rw [List.mem_singleton.1 hx]; exact hpk) p (by simp)
  obtain ⟨ok, ot, ⟨ova, ovb, ovt⟩, oc, oats, hop⟩ : ∃ k t v c a, p.op = ⟨k, t, v, c, a⟩ := ⟨_, _, _, _, _, rfl⟩
  have hats := op_attrs p
  obtain ⟨hst, hsv⟩ := hp.sz
  rw [hop] at hats hst hsv
  dsimp only at hats hst hsv
  have hck : checkAttrs true p.attrs = 0 := by
    cases p with
    | ins a t m => exact check_weak (ins_ok.1 hpk).2.2.1
    | ret a m => exact (ret_ok.1 hpk).2.2
    | del m => rfl
    | emb a k v => exact check_weak (emb_attrs hpk.1)
  obtain ⟨T2, y2, fo, hpv2, hmo, heo, hco⟩ := op_meth hp hgood
  rw [hop] at hco
  have HCO := Lib.hid hco; clear hco
  cases p with
  | ins l t m =>
    obtain ⟨sl, rfl, h, -⟩ := id hp
    obtain ⟨a, m', c, rfl, -⟩ := h.1.sl
    injection hpv2 with e1 e2
    subst e1 e2
    have HOP := Lib.hid hop; clear hop
    go_enter Tryz.func112, Tryz.ntmps112
    go_wp2_with (go_at_fn fo; refine callsAt ?_; intro W hW; (have hgW : Gr w W := by (subst hW; exact (by repeat (with_reducible first | assumption | exact Gr.refl _ | apply Gr.alloc | apply Gr.drewN | apply Gr.drew | apply Gr.iter | (refine Gr.setCell ?_ (by simp) _) | (refine Gr.trans ?_ (by assumption)))))); (have B4 : Blk W w.heap.size 65 #[.int .i64 0, .string ⟨#[]⟩, .int .i64 0, .int .i64 0, .string ⟨#[]⟩, .int .i64 0, .slice none 0 0] := by (subst hW; (repeat (with_reducible first | assumption | apply Blk.set | (apply Blk.far (hp := by simp; omega)) | apply Blk.alloc | apply Blk.drewN | apply Blk.drew | (apply Blk.gr (hg := by assumption)) | (apply Blk.kg (k := by assumption) (hne := by decide)))))); (have B10 : Blk W (w.heap.size + 1 + 1) 113 #[.slice qa qm qc, .int .i64 n] := by (subst hW; exact Blk.newAt (by simp))); clear hW; refine (HCO.out W hgW).mono ?_; rintro e w1 ⟨ov, rfl, hO1, hg1⟩; have B5 := B4.gr hg1; have C10 := B10.gr hg1; have hg5 := Gr.trans hgW hg1; obtain ⟨oa, on, onc, rfl, -⟩ := hO1.sl; dsimp only [opV])
    have B11 := Blk.new w1 65 #[.int .i64 ok, .string ot, .int .i64 ova, .int .i64 ovb, .string ovt, .int .i64 oc, .slice oa on onc]
    obtain ⟨W9, hW9⟩ : ∃ W9, w1.alloc (.cells #[.int .i64 ok, .string ot, .int .i64 ova, .int .i64 ovb, .string ovt, .int .i64 oc, .slice oa on onc] 65) = W9 := ⟨_, rfl⟩
    rw [hW9] at B11 ⊢
    have hg9 : Gr w1 W9 := by (subst hW9; exact (by repeat (with_reducible first | assumption | exact Gr.refl _ | apply Gr.alloc | apply Gr.drewN | apply Gr.drew | apply Gr.iter | (refine Gr.setCell ?_ (by simp) _) | (refine Gr.trans ?_ (by assumption)))))
    have hgw9 : Gr w W9 := Gr.trans hg5 hg9
    have D4 := B5.gr hg9
    have D10 := C10.gr hg9
    obtain ⟨g11, h11⟩ : ∃ g11, w1.heap.size = g11 := ⟨_, rfl⟩
    have z11 : w.heap.size < g11 := by rw [← h11]; exact B5.lt
    rw [h11] at B11 ⊢
    have z9 := B11.lt
    clear hW9 h11 hO1 B4 B10 B5 C10
    have d10 := D10.cell 0
    simp at d10
    go_region_held3 (fun W' => W'.cell? ⟨w.heap.size + 1 + 1, 0, none⟩ = some (.slice qa qm qc))
      (first | exact Gr.cell (w := W9) (by repeat (with_reducible first | assumption | exact Gr.refl _ | apply Gr.alloc | apply Gr.drewN | apply Gr.drew | apply Gr.iter | (refine Gr.setCell ?_ (by simp) _) | (refine Gr.trans ?_ (by assumption)))) d10 | go_keep)
      (first
        | (go_at_call 149; refine (bears_any _ _ _ (PieceV.gr (w := w) hp (by repeat (with_reducible first | assumption | exact Gr.refl _ | apply Gr.alloc | apply Gr.drewN | apply Gr.drew | apply Gr.iter | (refine Gr.setCell ?_ (by simp) _) | (refine Gr.trans ?_ (by assumption)))))).mono ?_; rintro e wa ⟨bv, rfl, hOb, hga⟩; have hRb := OwnL.rd hOb (by omega); obtain ⟨ba, bn, bc, rfl, -⟩ := hOb.sl)
        | (go_at_call 148; refine (acomp_any _ l2 _ _ false _ (hE.gr (by repeat (with_reducible first | assumption | exact Gr.refl _ | apply Gr.alloc | apply Gr.drewN | apply Gr.drew | apply Gr.iter | (refine Gr.setCell ?_ (by simp) _) | (refine Gr.trans ?_ (by assumption))))) (RdAttrs.gr hRb (by repeat (with_reducible first | assumption | exact Gr.refl _ | apply Gr.alloc | apply Gr.drewN | apply Gr.drew | apply Gr.iter | (refine Gr.setCell ?_ (by simp) _) | (refine Gr.trans ?_ (by assumption))))) (RdAttrs.gr (w := w) hq.rd (by repeat (with_reducible first | assumption | exact Gr.refl _ | apply Gr.alloc | apply Gr.drewN | apply Gr.drew | apply Gr.iter | (refine Gr.setCell ?_ (by simp) _) | (refine Gr.trans ?_ (by assumption))))) hck h2 hN).mono ?_; rintro e wb ⟨cv, rfl, hOc, hgc⟩; obtain ⟨ca, cn, cc, rfl, -⟩ := hOc.sl))
    all_goals
      have gg : Gr W9 wb := (by repeat (with_reducible first | assumption | exact Gr.refl _ | apply Gr.alloc | apply Gr.drewN | apply Gr.drew | apply Gr.iter | (refine Gr.setCell ?_ (by simp) _) | (refine Gr.trans ?_ (by assumption))))
      have E11 := B11.gr gg
      have e11 := E11.cell; have ef11 := E11.frozen; have ez11 := E11.lt
      have E4 := D4.gr gg
      have e4 := E4.cell; have ef4 := E4.frozen; have ez4 := E4.lt
      have hne4 : ¬ w.heap.size = g11 := by omega
      have hne11 : ¬ g11 = w.heap.size := by omega
      have gwb : Gr w wb := Gr.trans hgw9 gg
      have zc : W9.heap.size ≤ wa.heap.size := Gr.size (w := W9) (w' := wa) (by repeat (with_reducible first | assumption | exact Gr.refl _ | apply Gr.alloc | apply Gr.drewN | apply Gr.drew | apply Gr.iter | (refine Gr.setCell ?_ (by simp) _) | (refine Gr.trans ?_ (by assumption))))
      go_wp2
      have T1 := (E4.far (p := ⟨g11, 6, none⟩) hne4 (.slice ca cn cc)).set7M (.int .i64 ok) (.string ot) (.int .i64 ova) (.int .i64 ovb) (.string ovt) (.int .i64 oc) (.slice ca cn cc)
      have y1 := T1.cell
      refine bodyPost_ret (v := .tuple #[.agg #[.int .i64 ok, .string ot, .int .i64 ova, .int .i64 ovb, .string ovt, .int .i64 oc, .slice ca cn cc], .bool true, .nilIface]) (by simp [results, Tryz.results112, go_sem, y1]; done) rfl ⟨⟨ok, ot, ⟨ova, ovb, ovt⟩, oc, compA false oats l2⟩, .slice ca cn cc, true, rfl, ?_, ?_, hst, hsv, ?_⟩
      · rw [if_pos rfl]; show [({ Piece.op _ with attrs := _ } : Op)] = _; rw [HOP.out, hats]; rfl
      · show OwnL AttrR 4 w.heap.size 176 _ _ (compA false oats l2)
        rw [hats]
        exact OwnL.base_le (own7M (OwnL.setCell (R := AttrR) hOc (a := ⟨g11, 6, none⟩) (by first | omega | (dsimp only; omega) | (simp; omega)) _ (fun _ _ h => h)) (by first | omega | (dsimp only; omega) | (simp; omega)) _ _ _ _ _ _ _) (by first | omega | (dsimp only; omega) | (simp; omega))
      · exact gr7M (gwb.setCell (by first | omega | (dsimp only; omega) | (simp; omega)) _) (Nat.le_refl _) _ _ _ _ _ _ _
  | emb l t x =>
    obtain ⟨sl, rfl, h, -⟩ := id hp
    obtain ⟨a, m', c, rfl, -⟩ := h.1.sl
    injection hpv2 with e1 e2
    subst e1 e2
    have HOP := Lib.hid hop; clear hop
    go_enter Tryz.func112, Tryz.ntmps112
    go_wp2_with (go_at_fn fo; refine callsAt ?_; intro W hW; (have hgW : Gr w W := by (subst hW; exact (by repeat (with_reducible first | assumption | exact Gr.refl _ | apply Gr.alloc | apply Gr.drewN | apply Gr.drew | apply Gr.iter | (refine Gr.setCell ?_ (by simp) _) | (refine Gr.trans ?_ (by assumption)))))); (have B4 : Blk W w.heap.size 65 #[.int .i64 0, .string ⟨#[]⟩, .int .i64 0, .int .i64 0, .string ⟨#[]⟩, .int .i64 0, .slice none 0 0] := by (subst hW; (repeat (with_reducible first | assumption | apply Blk.set | (apply Blk.far (hp := by simp; omega)) | apply Blk.alloc | apply Blk.drewN | apply Blk.drew | (apply Blk.gr (hg := by assumption)) | (apply Blk.kg (k := by assumption) (hne := by decide)))))); (have B10 : Blk W (w.heap.size + 1 + 1) 113 #[.slice qa qm qc, .int .i64 n] := by (subst hW; exact Blk.newAt (by simp))); clear hW; refine (HCO.out W hgW).mono ?_; rintro e w1 ⟨ov, rfl, hO1, hg1⟩; have B5 := B4.gr hg1; have C10 := B10.gr hg1; have hg5 := Gr.trans hgW hg1; obtain ⟨oa, on, onc, rfl, -⟩ := hO1.sl; dsimp only [opV])
    have B11 := Blk.new w1 65 #[.int .i64 ok, .string ot, .int .i64 ova, .int .i64 ovb, .string ovt, .int .i64 oc, .slice oa on onc]
    obtain ⟨W9, hW9⟩ : ∃ W9, w1.alloc (.cells #[.int .i64 ok, .string ot, .int .i64 ova, .int .i64 ovb, .string ovt, .int .i64 oc, .slice oa on onc] 65) = W9 := ⟨_, rfl⟩
    rw [hW9] at B11 ⊢
    have hg9 : Gr w1 W9 := by (subst hW9; exact (by repeat (with_reducible first | assumption | exact Gr.refl _ | apply Gr.alloc | apply Gr.drewN | apply Gr.drew | apply Gr.iter | (refine Gr.setCell ?_ (by simp) _) | (refine Gr.trans ?_ (by assumption)))))
    have hgw9 : Gr w W9 := Gr.trans hg5 hg9
    have D4 := B5.gr hg9
    have D10 := C10.gr hg9
    obtain ⟨g11, h11⟩ : ∃ g11, w1.heap.size = g11 := ⟨_, rfl⟩
    have z11 : w.heap.size < g11 := by rw [← h11]; exact B5.lt
    rw [h11] at B11 ⊢
    have z9 := B11.lt
    clear hW9 h11 hO1 B4 B10 B5 C10
    have d10 := D10.cell 0
    simp at d10
    go_region_held3 (fun W' => W'.cell? ⟨w.heap.size + 1 + 1, 0, none⟩ = some (.slice qa qm qc))
      (first | exact Gr.cell (w := W9) (by repeat (with_reducible first | assumption | exact Gr.refl _ | apply Gr.alloc | apply Gr.drewN | apply Gr.drew | apply Gr.iter | (refine Gr.setCell ?_ (by simp) _) | (refine Gr.trans ?_ (by assumption)))) d10 | go_keep)
      (first
        | (go_at_call 149; refine (bears_any _ _ _ (PieceV.gr (w := w) hp (by repeat (with_reducible first | assumption | exact Gr.refl _ | apply Gr.alloc | apply Gr.drewN | apply Gr.drew | apply Gr.iter | (refine Gr.setCell ?_ (by simp) _) | (refine Gr.trans ?_ (by assumption)))))).mono ?_; rintro e wa ⟨bv, rfl, hOb, hga⟩; have hRb := OwnL.rd hOb (by omega); obtain ⟨ba, bn, bc, rfl, -⟩ := hOb.sl)
        | (go_at_call 148; refine (acomp_any _ l2 _ _ false _ (hE.gr (by repeat (with_reducible first | assumption | exact Gr.refl _ | apply Gr.alloc | apply Gr.drewN | apply Gr.drew | apply Gr.iter | (refine Gr.setCell ?_ (by simp) _) | (refine Gr.trans ?_ (by assumption))))) (RdAttrs.gr hRb (by repeat (with_reducible first | assumption | exact Gr.refl _ | apply Gr.alloc | apply Gr.drewN | apply Gr.drew | apply Gr.iter | (refine Gr.setCell ?_ (by simp) _) | (refine Gr.trans ?_ (by assumption))))) (RdAttrs.gr (w := w) hq.rd (by repeat (with_reducible first | assumption | exact Gr.refl _ | apply Gr.alloc | apply Gr.drewN | apply Gr.drew | apply Gr.iter | (refine Gr.setCell ?_ (by simp) _) | (refine Gr.trans ?_ (by assumption))))) hck h2 hN).mono ?_; rintro e wb ⟨cv, rfl, hOc, hgc⟩; obtain ⟨ca, cn, cc, rfl, -⟩ := hOc.sl))
    all_goals
      have gg : Gr W9 wb := (by repeat (with_reducible first | assumption | exact Gr.refl _ | apply Gr.alloc | apply Gr.drewN | apply Gr.drew | apply Gr.iter | (refine Gr.setCell ?_ (by simp) _) | (refine Gr.trans ?_ (by assumption))))
      have E11 := B11.gr gg
      have e11 := E11.cell; have ef11 := E11.frozen; have ez11 := E11.lt
      have E4 := D4.gr gg
      have e4 := E4.cell; have ef4 := E4.frozen; have ez4 := E4.lt
      have hne4 : ¬ w.heap.size = g11 := by omega
      have hne11 : ¬ g11 = w.heap.size := by omega
      have gwb : Gr w wb := Gr.trans hgw9 gg
      have zc : W9.heap.size ≤ wa.heap.size := Gr.size (w := W9) (w' := wa) (by repeat (with_reducible first | assumption | exact Gr.refl _ | apply Gr.alloc | apply Gr.drewN | apply Gr.drew | apply Gr.iter | (refine Gr.setCell ?_ (by simp) _) | (refine Gr.trans ?_ (by assumption))))
      go_wp2
      have T1 := (E4.far (p := ⟨g11, 6, none⟩) hne4 (.slice ca cn cc)).set7M (.int .i64 ok) (.string ot) (.int .i64 ova) (.int .i64 ovb) (.string ovt) (.int .i64 oc) (.slice ca cn cc)
      have y1 := T1.cell
      refine bodyPost_ret (v := .tuple #[.agg #[.int .i64 ok, .string ot, .int .i64 ova, .int .i64 ovb, .string ovt, .int .i64 oc, .slice ca cn cc], .bool true, .nilIface]) (by simp [results, Tryz.results112, go_sem, y1]; done) rfl ⟨⟨ok, ot, ⟨ova, ovb, ovt⟩, oc, compA false oats l2⟩, .slice ca cn cc, true, rfl, ?_, ?_, hst, hsv, ?_⟩
      · rw [if_pos rfl]; show [({ Piece.op _ with attrs := _ } : Op)] = _; rw [HOP.out, hats]; rfl
      · show OwnL AttrR 4 w.heap.size 176 _ _ (compA false oats l2)
        rw [hats]
        exact OwnL.base_le (own7M (OwnL.setCell (R := AttrR) hOc (a := ⟨g11, 6, none⟩) (by first | omega | (dsimp only; omega) | (simp; omega)) _ (fun _ _ h => h)) (by first | omega | (dsimp only; omega) | (simp; omega)) _ _ _ _ _ _ _) (by first | omega | (dsimp only; omega) | (simp; omega))
      · exact gr7M (gwb.setCell (by first | omega | (dsimp only; omega) | (simp; omega)) _) (Nat.le_refl _) _ _ _ _ _ _ _
  | ret l m =>
    obtain ⟨sl, rfl, h⟩ := id hp
    obtain ⟨a, m', c, rfl, -⟩ := h.1.sl
    injection hpv2 with e1 e2
    subst e1 e2
    have HOP := Lib.hid hop; clear hop
    go_enter Tryz.func112, Tryz.ntmps112
    go_wp2_with (go_at_fn fo; refine callsAt ?_; intro W hW; (have hgW : Gr w W := by (subst hW; exact (by repeat (with_reducible first | assumption | exact Gr.refl _ | apply Gr.alloc | apply Gr.drewN | apply Gr.drew | apply Gr.iter | (refine Gr.setCell ?_ (by simp) _) | (refine Gr.trans ?_ (by assumption)))))); (have B4 : Blk W w.heap.size 65 #[.int .i64 0, .string ⟨#[]⟩, .int .i64 0, .int .i64 0, .string ⟨#[]⟩, .int .i64 0, .slice none 0 0] := by (subst hW; (repeat (with_reducible first | assumption | apply Blk.set | (apply Blk.far (hp := by simp; omega)) | apply Blk.alloc | apply Blk.drewN | apply Blk.drew | (apply Blk.gr (hg := by assumption)) | (apply Blk.kg (k := by assumption) (hne := by decide)))))); (have B10 : Blk W (w.heap.size + 1 + 1) 113 #[.slice qa qm qc, .int .i64 n] := by (subst hW; exact Blk.newAt (by simp))); clear hW; refine (HCO.out W hgW).mono ?_; rintro e w1 ⟨ov, rfl, hO1, hg1⟩; have B5 := B4.gr hg1; have C10 := B10.gr hg1; have hg5 := Gr.trans hgW hg1; obtain ⟨oa, on, onc, rfl, -⟩ := hO1.sl; dsimp only [opV])
    have B11 := Blk.new w1 65 #[.int .i64 ok, .string ot, .int .i64 ova, .int .i64 ovb, .string ovt, .int .i64 oc, .slice oa on onc]
    obtain ⟨W9, hW9⟩ : ∃ W9, w1.alloc (.cells #[.int .i64 ok, .string ot, .int .i64 ova, .int .i64 ovb, .string ovt, .int .i64 oc, .slice oa on onc] 65) = W9 := ⟨_, rfl⟩
    rw [hW9] at B11 ⊢
    have hg9 : Gr w1 W9 := by (subst hW9; exact (by repeat (with_reducible first | assumption | exact Gr.refl _ | apply Gr.alloc | apply Gr.drewN | apply Gr.drew | apply Gr.iter | (refine Gr.setCell ?_ (by simp) _) | (refine Gr.trans ?_ (by assumption)))))
    have hgw9 : Gr w W9 := Gr.trans hg5 hg9
    have D4 := B5.gr hg9
    have D10 := C10.gr hg9
    obtain ⟨g11, h11⟩ : ∃ g11, w1.heap.size = g11 := ⟨_, rfl⟩
    have z11 : w.heap.size < g11 := by rw [← h11]; exact B5.lt
    rw [h11] at B11 ⊢
    have z9 := B11.lt
    clear hW9 h11 hO1 B4 B10 B5 C10
    have d10 := D10.cell 0
    simp at d10
    go_region_held3 (fun W' => W'.cell? ⟨w.heap.size + 1 + 1, 0, none⟩ = some (.slice qa qm qc))
      (first | exact Gr.cell (w := W9) (by repeat (with_reducible first | assumption | exact Gr.refl _ | apply Gr.alloc | apply Gr.drewN | apply Gr.drew | apply Gr.iter | (refine Gr.setCell ?_ (by simp) _) | (refine Gr.trans ?_ (by assumption)))) d10 | go_keep)
      (first
        | (go_at_call 149; refine (bears_any _ _ _ (PieceV.gr (w := w) hp (by repeat (with_reducible first | assumption | exact Gr.refl _ | apply Gr.alloc | apply Gr.drewN | apply Gr.drew | apply Gr.iter | (refine Gr.setCell ?_ (by simp) _) | (refine Gr.trans ?_ (by assumption)))))).mono ?_; rintro e wa ⟨bv, rfl, hOb, hga⟩; have hRb := OwnL.rd hOb (by omega); obtain ⟨ba, bn, bc, rfl, -⟩ := hOb.sl)
        | (go_at_call 148; refine (acomp_any _ l2 _ _ true _ (hE.gr (by repeat (with_reducible first | assumption | exact Gr.refl _ | apply Gr.alloc | apply Gr.drewN | apply Gr.drew | apply Gr.iter | (refine Gr.setCell ?_ (by simp) _) | (refine Gr.trans ?_ (by assumption))))) (RdAttrs.gr hRb (by repeat (with_reducible first | assumption | exact Gr.refl _ | apply Gr.alloc | apply Gr.drewN | apply Gr.drew | apply Gr.iter | (refine Gr.setCell ?_ (by simp) _) | (refine Gr.trans ?_ (by assumption))))) (RdAttrs.gr (w := w) hq.rd (by repeat (with_reducible first | assumption | exact Gr.refl _ | apply Gr.alloc | apply Gr.drewN | apply Gr.drew | apply Gr.iter | (refine Gr.setCell ?_ (by simp) _) | (refine Gr.trans ?_ (by assumption))))) hck h2 hN).mono ?_; rintro e wb ⟨cv, rfl, hOc, hgc⟩; obtain ⟨ca, cn, cc, rfl, -⟩ := hOc.sl))
    all_goals
      have gg : Gr W9 wb := (by repeat (with_reducible first | assumption | exact Gr.refl _ | apply Gr.alloc | apply Gr.drewN | apply Gr.drew | apply Gr.iter | (refine Gr.setCell ?_ (by simp) _) | (refine Gr.trans ?_ (by assumption))))
      have E11 := B11.gr gg
      have e11 := E11.cell; have ef11 := E11.frozen; have ez11 := E11.lt
      have E4 := D4.gr gg
      have e4 := E4.cell; have ef4 := E4.frozen; have ez4 := E4.lt
      have hne4 : ¬ w.heap.size = g11 := by omega
      have hne11 : ¬ g11 = w.heap.size := by omega
      have gwb : Gr w wb := Gr.trans hgw9 gg
      have zc : W9.heap.size ≤ wa.heap.size := Gr.size (w := W9) (w' := wa) (by repeat (with_reducible first | assumption | exact Gr.refl _ | apply Gr.alloc | apply Gr.drewN | apply Gr.drew | apply Gr.iter | (refine Gr.setCell ?_ (by simp) _) | (refine Gr.trans ?_ (by assumption))))
      go_wp2
      have T1 := (E4.far (p := ⟨g11, 6, none⟩) hne4 (.slice ca cn cc)).set7M (.int .i64 ok) (.string ot) (.int .i64 ova) (.int .i64 ovb) (.string ovt) (.int .i64 oc) (.slice ca cn cc)
      have y1 := T1.cell
      refine bodyPost_ret (v := .tuple #[.agg #[.int .i64 ok, .string ot, .int .i64 ova, .int .i64 ovb, .string ovt, .int .i64 oc, .slice ca cn cc], .bool true, .nilIface]) (by simp [results, Tryz.results112, go_sem, y1]; done) rfl ⟨⟨ok, ot, ⟨ova, ovb, ovt⟩, oc, compA true oats l2⟩, .slice ca cn cc, true, rfl, ?_, ?_, hst, hsv, ?_⟩
      · rw [if_pos rfl]; show [({ Piece.op _ with attrs := _ } : Op)] = _; rw [HOP.out, hats]; rfl
      · show OwnL AttrR 4 w.heap.size 176 _ _ (compA true oats l2)
        rw [hats]
        exact OwnL.base_le (own7M (OwnL.setCell (R := AttrR) hOc (a := ⟨g11, 6, none⟩) (by first | omega | (dsimp only; omega) | (simp; omega)) _ (fun _ _ h => h)) (by first | omega | (dsimp only; omega) | (simp; omega)) _ _ _ _ _ _ _) (by first | omega | (dsimp only; omega) | (simp; omega))
      · exact gr7M (gwb.setCell (by first | omega | (dsimp only; omega) | (simp; omega)) _) (Nat.le_refl _) _ _ _ _ _ _ _
  | del m => exact absurd rfl h4
theorem together_any {ea : Nat → Addr} (p q : Piece) (pv qv : Value) (w : World) (hE : Env ea w) (hp : PieceV w p pv) (hq : PieceV w q qv) (hpk : pOk p) (hqk : pOk q) (h4 : p.k ≠ 4) (h3 : q.k = 3 ∨ q.k = 4) (hN : p.attrs.length ≤ 1048576) (hN2 : q.attrs.length ≤ 1048576) :
    Calls Tryz.prog 112 #[pv, qv] w (TogR p q w) := by
  cases q with
  | ins a t n => simp [Piece.k] at h3
  | emb a k v => simp [Piece.k] at h3
  | del n =>
    obtain rfl := hq
    exact together_del p n pv w hp h4
  | ret l n =>
    obtain ⟨sl, rfl, h⟩ := hq
    simp only [Piece.attrs] at hN2
    have := comp_len (isRetP p) p.attrs l
    exact together_ret p l n pv sl w hE hp h hpk (ret_ok.1 hqk).2.2 h4 (by omega) (by omega)

end Ve
/- Walks of layer 11: down. -/
namespace Ve
open Go Go.RowKit Go.Proofs Go.Shelf

attribute [local go_sem] Oper.semAt_some func_nil1 func_nil2 field_kind
attribute [local go_sem ↓] append_shut
attribute [local simp] undef_bool undef_iface
theorem op_kind (p : Piece) : p.op.kind = p.k := by cases p <;> rfl
/-- What down holds between two rounds. -/
def DnI (H : Nat) (w5 : World) (S : List (Option Piece × Option Piece)) (pre : List Stp) (W : World) : Prop :=
  ∃ lv, SdB H (H + 1 + 1) H ((pre.map (·.1)).flatMap downS) [] lv (.slice none 0 0) W ∧ Blk W (H + 1) 28 #[.nilIface] ∧ Gr w5 W ∧ pre.map (·.1) = S.take pre.length
theorem DnI.abd {H B : Nat} {w5 : World} {S : List (Option Piece × Option Piece)} (hB : w5.heap.size ≤ B) (pre : List Stp) : Abd (fun b t => B ≤ b ∧ wkG t) (DnI H w5 S pre) := by
  rintro W W' ⟨lv, h1, h4, h2, h3⟩ g
  exact ⟨lv, h1.tn g (fun b h => by simp [wkG] at h) (fun b h => by simp [wkG] at h) (fun b h => by simp [wkG] at h), h4.tn g (fun h => by simp [wkG] at h), h2.tn g fun b t h => Nat.le_trans hB h.1, h3⟩
theorem dn_start (w : World) (a b : Value) : ∃ W, ((((w.alloc (.cells #[.slice none 0 0] 22)).alloc (.cells #[.nilIface] 28)).alloc (.cells #[.slice none 0 0] 22)).alloc (.cells #[a] 24)).alloc (.cells #[b] 24) = W ∧ Gr w W ∧ W.heap.size = w.heap.size + 1 + 1 + 1 + 1 + 1 ∧
    W.cell? ⟨w.heap.size + 1 + 1 + 1, 0, none⟩ = some a ∧ W.cell? ⟨w.heap.size + 1 + 1 + 1 + 1, 0, none⟩ = some b ∧ SdB w.heap.size (w.heap.size + 1 + 1) w.heap.size [] [] (.slice none 0 0) (.slice none 0 0) W ∧ Blk W (w.heap.size + 1) 28 #[.nilIface] := by
  refine ⟨_, rfl, (((((Gr.refl w).alloc _).alloc _).alloc _).alloc _).alloc _, by simp, ?_, ?_, ⟨?_, ?_, OwnL.nil .., OwnL.nil .., by omega, by omega, Nat.le_refl _, by simp [Value.ownBlock]⟩, ?_⟩
  · exact ((Blk.newAt (by simp)).alloc _).cell 0
  · exact (Blk.newAt (by simp)).cell 0
  · exact ((Blk.newAt (by simp)).alloc _).alloc _
  · exact (((((Blk.new w _ _).alloc _).alloc _).alloc _).alloc _)
  · exact (((Blk.newAt (by simp)).alloc _).alloc _).alloc _

set_option maxRecDepth 100000 in
set_option maxHeartbeats 8000000 in
theorem down_any {ea : Nat → Addr} (ps qs : List Piece) (va vb : Value) (w : World) (hE : Env ea w) (ha : DeltaR w va ps) (hb : DeltaR w vb qs) (hp : Can ps) (hq : Can qs) (hN : ps.length + qs.length ≤ 4000000)
    (hAt : ∀ x ∈ stepsP (ps.length + qs.length) ps qs, (∀ p, x.1 = some p → p.attrs.length ≤ 1048576) ∧ ∀ q, x.2 = some q → q.attrs.length ≤ 1048576) :
    Calls Tryz.prog 66 #[va, vb] w fun e w' => ∃ v', e = .returned (.tuple #[v', .nilIface]) ∧ RdOps w' v' (downP ps qs) ∧ Gr w w' := by
  obtain ⟨N, hN5⟩ : ∃ N : Nat, N = 5 := ⟨5, rfl⟩
  refine (callsIn_wide (n := N)).1 ?_
  have h1 : 1 ≤ N := by omega
  obtain ⟨gda, sla, rfl, hBa, hRa⟩ := ha
  have hDa : DeltaR w (.pointer (some ⟨gda, 0, none⟩)) ps := ⟨gda, sla, rfl, hBa, hRa⟩
  obtain ⟨gdb, slb, rfl, hBb, hRb⟩ := hb
  have hDb : DeltaR w (.pointer (some ⟨gdb, 0, none⟩)) qs := ⟨gdb, slb, rfl, hBb, hRb⟩
  clear hBa hRa hBb hRb
  have hmx : Tryz.prog.follows .mixedOrders = true := by kernel_rfl
  refine callsIn_of_wp_marks Tryz.func66 rfl trivial ?_ rfl
  simp only [Tryz.ntmps66, List.size_toArray, List.length_cons, List.length_nil, Nat.reduceAdd, Nat.reduceSub, Array.replicate_succ, Array.replicate_zero, List.push_toArray, List.append_toArray, List.nil_append, List.cons_append]
  obtain ⟨SS, hSS⟩ : ∃ SS, stepsP (ps.length + qs.length) ps qs = SS := ⟨_, rfl⟩
  have hDN : downP ps qs = SS.flatMap downS := by unfold downP; rw [hSS]
  rw [hDN]
  have hsl : SS.length ≤ 4000000 := by have := steps_len (ps.length + qs.length) ps qs; rw [hSS] at this; omega
  have hsok : ∀ x ∈ SS, StepOk x := by rw [← hSS]; exact steps_ok _ _ _ hp hq
  rw [hSS] at hAt
  gi_wp2_with (first
    | ((with_reducible refine And.intro ?_ ?_); exact trivial; gi_at_call 111; refine (callsIn_wide.2 (wsteps_any _ _ _)).mono ?_; rintro e w6 ⟨rfl, rfl⟩)
    | ((with_reducible refine And.intro ?_ ?_); (first | exact trivial | (intro f hf; cases hf)); go_at_K))
  obtain ⟨WB, hWB, hGB, hzB, bA, bB, hS0, hE0⟩ := dn_start w (.pointer (some ⟨gda, 0, none⟩)) (.pointer (some ⟨gdb, 0, none⟩))
  rw [hWB]
  have hseq := steps_told (N - 1) (w.heap.size + 1 + 1 + 1) (w.heap.size + 1 + 1 + 1 + 1) (by omega) ps qs _ _ w WB hE hGB bA bB hDa hDb hp hq
  rw [hSS] at hseq
  obtain ⟨H, hH⟩ : ∃ H, w.heap.size = H := ⟨_, rfl⟩
  rw [hH] at hS0 hE0 hseq hzB ⊢
  clear hWB bA bB
  have hI : ∀ s, Abd (fun b t => WB.heap.size ≤ b ∧ wkG t) (DnI H w SS s) := fun s => DnI.abd (by omega) s
  apply wpIn_told rfl h1 (gf := 145) (lb := #[.pointer (some ⟨H + 1 + 1 + 1, 0, none⟩), .pointer (some ⟨H + 1 + 1 + 1 + 1, 0, none⟩)]) rfl trivial (enters_of Tryz.func145 (by kernel_rfl) rfl) hseq
    (.inl rfl) (fun h k => h.trans k) (fun x W l o o' hl h ho _ => Tn.put W o' h (by rw [tyO_none ho]; exact ⟨by omega, by simp, by simp, by simp⟩))
    (fun k x W W' h g => StpT.tn h g fun b hh => by simp [wkG] at hh) (Below.refl _ _) (fun _ => rfl)
    (DnI H w SS) (fun _ _ _ => False) hI (fun _ _ _ _ hs _ => hs)
    ⟨_, hS0, hE0, hGB, rfl⟩ _ ?assign ?body ?done ?stop
  case assign =>
    intro l x W K hK
    gi_wp2
    exact hK
  case body =>
    rintro L0 pre ⟨⟨o1, o2⟩, pv, qv⟩ W ⟨lv, hS, hEr, hgW, htk⟩ ⟨hk, hpv, hqv⟩
    have hmem := hsok _ (List.mem_of_getElem? hk)
    have hatx := hAt _ (List.mem_of_getElem? hk)
    have hlt : pre.length < SS.length := (List.getElem?_eq_some_iff.1 hk).1
    have HLn := Lib.hid (show ((pre.map (·.1)).flatMap downS).length ≤ 4000000 by have h := flat_len (pre.map (·.1)); rw [List.length_map] at h; omega)
    obtain ⟨la1, n1, c1, rfl, -, -, hn1⟩ := hS.ol.sl
    have hnm : n1 ≤ 4000000 := by have := HLn.out; rw [hn1.out] at this; exact this
    have b12 := hS.bl.cell
    have HTK := Lib.hid (And.intro htk hk); clear htk hk
    have hzW : H ≤ W.heap.size := by have := hgW.size; omega
    rcases hmem with ⟨q, e, hq1, hqk⟩ | ⟨p, e, hp1, hpk⟩ | ⟨p, q, e, hp1, hq1, hlen, hpk, hqk⟩
    · obtain ⟨rfl, rfl⟩ : o1 = none ∧ o2 = some q := by simpa using e
      obtain rfl : pv = .nilIface := hpv
      replace hqv : PieceV W q qv := hqv
      clear e hatx hqk
      obtain ⟨Tq, yq, fq, eq, hmq, heq, hcq⟩ := op_methV hqv (PsOk.good (ps := [q]) (fun x hx => by rw [List.mem_singleton.1 hx]; exact hq1) q (by simp))
      subst eq
      obtain ⟨kq, tq, ⟨vaq, vbq, vtq⟩, cq, aq, oq⟩ : ∃ k t v c a, q.op = ⟨k, t, v, c, a⟩ := ⟨_, _, _, _, _, rfl⟩
      have sq := hqv.sz
      have atq := op_attrs q
      have kkq := op_kind q
      have shq := hqv.short
      rw [oq] at hcq sq atq kkq
      dsimp only at sq atq kkq
      have HCq := Lib.hid hcq; have SZq := Lib.hid (And.intro sq (And.intro atq shq)); clear hcq sq atq shq
      clear kkq
      gi_wp2
      gi_region_with_o (first
        | (((with_reducible refine And.intro ?_ ?_); exact trivial; gi_at_fn fq; have _h := hqv; refine (CallsIn.inRound L0 (callsIn_wide.2 (HCq.out _ (PieceV.gr hqv (by repeat (with_reducible first | assumption | exact Gr.refl _ | apply Gr.alloc | apply Gr.drewN | apply Gr.drew | apply Gr.iter | (refine Gr.setCell ?_ (by simp) _) | (refine Gr.trans ?_ (by assumption)))))))).mono ?_; rintro e x1 ⟨sv1, rfl, hsx1, hgx1⟩; obtain ⟨sax1, snx1, scx1, rfl, -⟩ := hsx1.sl; dsimp only [opV]); have hSxx1 := (SdB.gr hS (show Gr W x1 from (by repeat (with_reducible first | assumption | exact Gr.refl _ | apply Gr.alloc | apply Gr.drewN | apply Gr.drew | apply Gr.iter | (refine Gr.setCell ?_ (by simp) _) | (refine Gr.trans ?_ (by assumption)))))); have hclx1 := hSxx1.bl.cell; have hcrx1 := hSxx1.br.cell; have hclzx1 := hSxx1.bl.lt; have hcrzx1 := hSxx1.br.lt; have hclfx1 := hSxx1.bl.frozen; have hcrfx1 := hSxx1.br.frozen; obtain ⟨vx1, yx1, hrunx1, hbx1, hSx1, hTx1, ax1, nx1, cx1, rfl, hnx1⟩ := SdB.push hSxx1 ⟨kq, tq, ⟨vaq, vbq, vtq⟩, cq, aq⟩ (.slice sax1 snx1 scx1) (SZq.out.2.1 ▸ OwnAL.rd hsx1 SZq.out.2.2) SZq.out.1.1 SZq.out.1.2 (by have := HLn.out; omega) (by have h1 := Gr.size (w := W) (w' := x1) (by repeat (with_reducible first | assumption | exact Gr.refl _ | apply Gr.alloc | apply Gr.drewN | apply Gr.drew | apply Gr.iter | (refine Gr.setCell ?_ (by simp) _) | (refine Gr.trans ?_ (by assumption)))); have h2 := hzW; omega); clear hnx1; have hbcx1 := hbx1.cell; have hbfx1 := hbx1.frozen; have hbzx1 := hbx1.lt))
      all_goals
        go_simp
        have F2 : Tn (sdW H) W (yx1.setCell ⟨H + 1 + 1, 0, none⟩ (.slice ax1 nx1 cx1)) := (Tn.of_gr (show Gr W x1 from (by repeat (with_reducible first | assumption | exact Gr.refl _ | apply Gr.alloc | apply Gr.drewN | apply Gr.drew | apply Gr.iter | (refine Gr.setCell ?_ (by simp) _) | (refine Gr.trans ?_ (by assumption)))))).trans hTx1
        refine ⟨KeepsOthers.of_tn F2 fun b h => by simp [sdW] at h, F2.mono fun b t h => ⟨by have := h.1; omega, ?_⟩, ⟨_, SdB.eq hSx1 (by rw [List.map_append, List.map_singleton, List.flatMap_append]; simp only [List.flatMap_cons, List.flatMap_nil, downS, List.append_nil, oq]) rfl, hEr.tn F2 (fun h => by simp [sdW] at h), Gr.tn hgW F2 fun b t h => by rw [hH]; exact h.1, ?_⟩⟩
        · rcases h.2 with rfl | rfl <;> simp
        · rw [List.map_append, List.map_singleton, List.length_append, List.length_singleton, List.take_succ, HTK.out.2, HTK.out.1]
          rfl
    · obtain ⟨rfl, rfl⟩ : o1 = some p ∧ o2 = none := by simpa using e
      obtain rfl : qv = .nilIface := hqv
      replace hpv : PieceV W p pv := hpv
      clear e hatx hpk
      obtain ⟨Tp, yp, fp, ep, hmp, hep, hcp⟩ := op_methV hpv (PsOk.good (ps := [p]) (fun x hx => by rw [List.mem_singleton.1 hx]; exact hp1) p (by simp))
      subst ep
      obtain ⟨kp, tp, ⟨vap, vbp, vtp⟩, cp, ap, op⟩ : ∃ k t v c a, p.op = ⟨k, t, v, c, a⟩ := ⟨_, _, _, _, _, rfl⟩
      have sp := hpv.sz
      have atp := op_attrs p
      have kkp := op_kind p
      have shp := hpv.short
      rw [op] at hcp sp atp kkp
      dsimp only at sp atp kkp
      have HCp := Lib.hid hcp; have SZp := Lib.hid (And.intro sp (And.intro atp shp)); clear hcp sp atp shp
      clear kkp
      gi_wp2
      gi_region_with_o (first
        | (((with_reducible refine And.intro ?_ ?_); exact trivial; gi_at_fn fp; have _h := hpv; refine (CallsIn.inRound L0 (callsIn_wide.2 (HCp.out _ (PieceV.gr hpv (by repeat (with_reducible first | assumption | exact Gr.refl _ | apply Gr.alloc | apply Gr.drewN | apply Gr.drew | apply Gr.iter | (refine Gr.setCell ?_ (by simp) _) | (refine Gr.trans ?_ (by assumption)))))))).mono ?_; rintro e x1 ⟨sv1, rfl, hsx1, hgx1⟩; obtain ⟨sax1, snx1, scx1, rfl, -⟩ := hsx1.sl; dsimp only [opV]); have hSxx1 := (SdB.gr hS (show Gr W x1 from (by repeat (with_reducible first | assumption | exact Gr.refl _ | apply Gr.alloc | apply Gr.drewN | apply Gr.drew | apply Gr.iter | (refine Gr.setCell ?_ (by simp) _) | (refine Gr.trans ?_ (by assumption)))))); have hclx1 := hSxx1.bl.cell; have hcrx1 := hSxx1.br.cell; have hclzx1 := hSxx1.bl.lt; have hcrzx1 := hSxx1.br.lt; have hclfx1 := hSxx1.bl.frozen; have hcrfx1 := hSxx1.br.frozen; obtain ⟨vx1, yx1, hrunx1, hbx1, hSx1, hTx1, ax1, nx1, cx1, rfl, hnx1⟩ := SdB.push hSxx1 ⟨kp, tp, ⟨vap, vbp, vtp⟩, cp, ap⟩ (.slice sax1 snx1 scx1) (SZp.out.2.1 ▸ OwnAL.rd hsx1 SZp.out.2.2) SZp.out.1.1 SZp.out.1.2 (by have := HLn.out; omega) (by have h1 := Gr.size (w := W) (w' := x1) (by repeat (with_reducible first | assumption | exact Gr.refl _ | apply Gr.alloc | apply Gr.drewN | apply Gr.drew | apply Gr.iter | (refine Gr.setCell ?_ (by simp) _) | (refine Gr.trans ?_ (by assumption)))); have h2 := hzW; omega); clear hnx1; have hbcx1 := hbx1.cell; have hbfx1 := hbx1.frozen; have hbzx1 := hbx1.lt))
      all_goals
        go_simp
        have F2 : Tn (sdW H) W (yx1.setCell ⟨H + 1 + 1, 0, none⟩ (.slice ax1 nx1 cx1)) := (Tn.of_gr (show Gr W x1 from (by repeat (with_reducible first | assumption | exact Gr.refl _ | apply Gr.alloc | apply Gr.drewN | apply Gr.drew | apply Gr.iter | (refine Gr.setCell ?_ (by simp) _) | (refine Gr.trans ?_ (by assumption)))))).trans hTx1
        refine ⟨KeepsOthers.of_tn F2 fun b h => by simp [sdW] at h, F2.mono fun b t h => ⟨by have := h.1; omega, ?_⟩, ⟨_, SdB.eq hSx1 (by rw [List.map_append, List.map_singleton, List.flatMap_append]; simp only [List.flatMap_cons, List.flatMap_nil, downS, List.append_nil, op]) rfl, hEr.tn F2 (fun h => by simp [sdW] at h), Gr.tn hgW F2 fun b t h => by rw [hH]; exact h.1, ?_⟩⟩
        · rcases h.2 with rfl | rfl <;> simp
        · rw [List.map_append, List.map_singleton, List.length_append, List.length_singleton, List.take_succ, HTK.out.2, HTK.out.1]
          rfl
    · obtain ⟨rfl, rfl⟩ : o1 = some p ∧ o2 = some q := by simpa using e
      replace hpv : PieceV W p pv := hpv
      replace hqv : PieceV W q qv := hqv
      clear e
      have ha1 := hatx.1 p rfl
      have ha2 := hatx.2 q rfl
      have hEW : Env ea W := hE.gr hgW
      obtain ⟨Tp, yp, ep⟩ := hpv.form
      subst ep
      obtain ⟨Tq, yq, eq⟩ := hqv.form
      subst eq
      cases hbp : bothP p q with
      | nil =>
        have HBP := Lib.hid hbp; clear hbp
        gi_wp2_with (first
          | ((with_reducible refine And.intro ?_ ?_); exact trivial; gi_at_call 112; refine (CallsIn.inRound L0 (callsIn_wide.2 (together_any p q _ _ _ (hEW.gr (by repeat (with_reducible first | assumption | exact Gr.refl _ | apply Gr.alloc | apply Gr.drewN | apply Gr.drew | apply Gr.iter | (refine Gr.setCell ?_ (by simp) _) | (refine Gr.trans ?_ (by assumption))))) (PieceV.gr hpv (by repeat (with_reducible first | assumption | exact Gr.refl _ | apply Gr.alloc | apply Gr.drewN | apply Gr.drew | apply Gr.iter | (refine Gr.setCell ?_ (by simp) _) | (refine Gr.trans ?_ (by assumption))))) (PieceV.gr hqv (by repeat (with_reducible first | assumption | exact Gr.refl _ | apply Gr.alloc | apply Gr.drewN | apply Gr.drew | apply Gr.iter | (refine Gr.setCell ?_ (by simp) _) | (refine Gr.trans ?_ (by assumption))))) hp1 hq1 hpk hqk ha1 ha2))).mono ?_; rintro e x1 ⟨⟨xk, xt, ⟨xa, xb, xv⟩, xc, xl⟩, sl, ok, rfl, hbo, hos, hz1, hz2, hgx1⟩; (obtain rfl : ok = false := by (cases ok with | false => rfl | true => (rw [HBP.out] at hbo; simp at hbo))); clear hbo; obtain ⟨sa, sn, sc, rfl, -⟩ := hos.sl; dsimp only [opV])
          | ((with_reducible refine And.intro ?_ ?_); (first | exact trivial | (intro f hf; cases hf)); go_at_K))
        have F2 : Tn (sdW H) W (x1.alloc (.cells #[.int .i64 xk, .string xt, .int .i64 xa, .int .i64 xb, .string xv, .int .i64 xc, .slice sa sn sc] 65)) := Tn.of_gr (by repeat (with_reducible first | assumption | exact Gr.refl _ | apply Gr.alloc | apply Gr.drewN | apply Gr.drew | apply Gr.iter | (refine Gr.setCell ?_ (by simp) _) | (refine Gr.trans ?_ (by assumption))))
        refine ⟨KeepsOthers.of_tn F2 fun b h => by simp [sdW] at h, F2.mono fun b t h => ⟨by have := h.1; omega, ?_⟩, ⟨_, SdB.eq (SdB.gr hS (by repeat (with_reducible first | assumption | exact Gr.refl _ | apply Gr.alloc | apply Gr.drewN | apply Gr.drew | apply Gr.iter | (refine Gr.setCell ?_ (by simp) _) | (refine Gr.trans ?_ (by assumption))))) (by rw [List.map_append, List.map_singleton, List.flatMap_append]; simp only [List.flatMap_cons, List.flatMap_nil, downS, List.append_nil, HBP.out]) rfl, hEr.tn F2 (fun h => by simp [sdW] at h), Gr.tn hgW F2 fun b t h => by rw [hH]; exact h.1, ?_⟩⟩
        · rcases h.2 with rfl | rfl <;> simp
        · rw [List.map_append, List.map_singleton, List.length_append, List.length_singleton, List.take_succ, HTK.out.2, HTK.out.1]
          rfl
      | cons o0 r =>
        have hr0 : r = [] := by
          have h := downS_len (some p, some q)
          simp only [downS, hbp, List.length_cons] at h
          exact List.eq_nil_of_length_eq_zero (by omega)
        subst hr0
        obtain ⟨xk, xt, ⟨xa, xb, xv⟩, xc, xl⟩ := o0
        have HBP := Lib.hid hbp
        have hxl : xl.length ≤ 1099511627776 := by
          cases q with
          | ins a t n => cases hbp
          | emb a k v => cases hbp
          | del n =>
            simp only [bothP] at hbp
            split at hbp
            · injection hbp with hbp; injection hbp with _ _ _ _ e; rw [← e]; simp
            · cases hbp
          | ret l n =>
            simp only [bothP] at hbp
            injection hbp with hbp
            injection hbp with _ _ _ _ e
            have := comp_len (isRetP p) p.attrs l
            simp only [Piece.attrs] at ha2
            rw [← e]; omega
        clear hbp
        gi_wp2_with (first
          | ((with_reducible refine And.intro ?_ ?_); exact trivial; gi_at_call 112; refine (CallsIn.inRound L0 (callsIn_wide.2 (together_any p q _ _ _ (hEW.gr (by repeat (with_reducible first | assumption | exact Gr.refl _ | apply Gr.alloc | apply Gr.drewN | apply Gr.drew | apply Gr.iter | (refine Gr.setCell ?_ (by simp) _) | (refine Gr.trans ?_ (by assumption))))) (PieceV.gr hpv (by repeat (with_reducible first | assumption | exact Gr.refl _ | apply Gr.alloc | apply Gr.drewN | apply Gr.drew | apply Gr.iter | (refine Gr.setCell ?_ (by simp) _) | (refine Gr.trans ?_ (by assumption))))) (PieceV.gr hqv (by repeat (with_reducible first | assumption | exact Gr.refl _ | apply Gr.alloc | apply Gr.drewN | apply Gr.drew | apply Gr.iter | (refine Gr.setCell ?_ (by simp) _) | (refine Gr.trans ?_ (by assumption))))) hp1 hq1 hpk hqk ha1 ha2))).mono ?_; rintro e x1 ⟨oo, sl, ok, rfl, hbo, hos, hz1, hz2, hgx1⟩; (obtain rfl : ok = true := by (cases ok with | true => rfl | false => (rw [HBP.out] at hbo; simp at hbo))); (obtain rfl : oo = ⟨xk, xt, ⟨xa, xb, xv⟩, xc, xl⟩ := by (rw [HBP.out] at hbo; simpa using hbo.symm)); clear hbo; obtain ⟨sa, sn, sc, rfl, -⟩ := hos.sl; dsimp only [opV]; have hX1 := SdB.gr hS (show Gr W (x1.alloc (.cells #[.int .i64 xk, .string xt, .int .i64 xa, .int .i64 xb, .string xv, .int .i64 xc, .slice sa sn sc] 65)) from (by repeat (with_reducible first | assumption | exact Gr.refl _ | apply Gr.alloc | apply Gr.drewN | apply Gr.drew | apply Gr.iter | (refine Gr.setCell ?_ (by simp) _) | (refine Gr.trans ?_ (by assumption))))); have hclx1 := hX1.bl.cell; have hclz1 := hX1.bl.lt; have hclf1 := hX1.bl.frozen; have hB9 := Blk.new x1 65 #[.int .i64 xk, .string xt, .int .i64 xa, .int .i64 xb, .string xv, .int .i64 xc, .slice sa sn sc]; have hc9 := hB9.cell; obtain ⟨vx1, yx1, hrunx1, hbx1, hSx1, hTx1, ax1, nx1, cx1, rfl, hnx1⟩ := SdB.push hX1 ⟨xk, xt, ⟨xa, xb, xv⟩, xc, xl⟩ (.slice sa sn sc) (OwnA.gr (OwnAL.rd hos hxl) (by repeat (with_reducible first | assumption | exact Gr.refl _ | apply Gr.alloc | apply Gr.drewN | apply Gr.drew | apply Gr.iter | (refine Gr.setCell ?_ (by simp) _) | (refine Gr.trans ?_ (by assumption))))) hz1 hz2 (by have := HLn.out; omega) (by have h1 := Gr.size (w := W) (w' := x1) (by repeat (with_reducible first | assumption | exact Gr.refl _ | apply Gr.alloc | apply Gr.drewN | apply Gr.drew | apply Gr.iter | (refine Gr.setCell ?_ (by simp) _) | (refine Gr.trans ?_ (by assumption)))); have h2 := hzW; rw [World.size_alloc]; omega); rw [World.size_alloc] at hrunx1; clear hnx1; have hbcx1 := hbx1.cell; have hbfx1 := hbx1.frozen; have hbzx1 := hbx1.lt)
          | ((with_reducible refine And.intro ?_ ?_); (first | exact trivial | (intro f hf; cases hf)); go_at_K))
        have F2 : Tn (sdW H) W (yx1.setCell ⟨H + 1 + 1, 0, none⟩ (.slice ax1 nx1 cx1)) := (Tn.of_gr (show Gr W (x1.alloc (.cells #[.int .i64 xk, .string xt, .int .i64 xa, .int .i64 xb, .string xv, .int .i64 xc, .slice sa sn sc] 65)) from (by repeat (with_reducible first | assumption | exact Gr.refl _ | apply Gr.alloc | apply Gr.drewN | apply Gr.drew | apply Gr.iter | (refine Gr.setCell ?_ (by simp) _) | (refine Gr.trans ?_ (by assumption)))))).trans hTx1
        refine ⟨KeepsOthers.of_tn F2 fun b h => by simp [sdW] at h, F2.mono fun b t h => ⟨by have := h.1; omega, ?_⟩, ⟨_, SdB.eq hSx1 (by rw [List.map_append, List.map_singleton, List.flatMap_append]; simp only [List.flatMap_cons, List.flatMap_nil, downS, List.append_nil, HBP.out]) rfl, hEr.tn F2 (fun h => by simp [sdW] at h), Gr.tn hgW F2 fun b t h => by rw [hH]; exact h.1, ?_⟩⟩
        · rcases h.2 with rfl | rfl <;> simp
        · rw [List.map_append, List.map_singleton, List.length_append, List.length_singleton, List.take_succ, HTK.out.2, HTK.out.1]
          rfl
  case done =>
    rintro D ys W hD hys ⟨lv, hS, hEr, hgW, -⟩ hK
    rw [hys] at hS
    have hzW : H ≤ W.heap.size := by have := hgW.size; omega
    obtain ⟨la1, n1, c1, rfl, -, -, -⟩ := hS.ol.sl
    have b12 := hS.bl.cell; have f12 := hS.bl.frozen; have z12 := hS.bl.lt
    have b10 := hS.br.cell; have f10 := hS.br.frozen; have z10 := hS.br.lt
    have b11 := hEr.cell; have f11 := hEr.frozen; have z11 := hEr.lt
    have br1 := hS.br.set 0 (.slice la1 n1 c1)
    have t1 : Tn (fun b t => b = H ∧ t = some 22) W (W.setCell ⟨H, 0, none⟩ (.slice la1 n1 c1)) := Tn.set hS.br ⟨rfl, rfl⟩ 0 _
    have er1 := hEr.tn t1 (fun h => absurd (Option.some.inj h.2) (by decide))
    have er2 := er1.set 0 .nilIface
    have t2 : Tn (fun b t => b = H + 1 ∧ t = some 28) (W.setCell ⟨H, 0, none⟩ (.slice la1 n1 c1)) ((W.setCell ⟨H, 0, none⟩ (.slice la1 n1 c1)).setCell ⟨H + 1, 0, none⟩ .nilIface) := Tn.set er1 ⟨rfl, rfl⟩ 0 _
    have br2 := br1.tn t2 (fun h => absurd (Option.some.inj h.2) (by decide))
    have hK' : ((W.setCell ⟨H, 0, none⟩ (.slice la1 n1 c1)).setCell ⟨H + 1, 0, none⟩ .nilIface).heap[D]? = some (.deferred (some [])) := ((KeepsOthers.setCell W ⟨H, 0, none⟩ (.slice la1 n1 c1)).trans (KeepsOthers.setCell _ ⟨H + 1, 0, none⟩ .nilIface)).same D _ hK rfl
    have t3 : Tn (fun b t => b = D ∧ t = none) _ (((W.setCell ⟨H, 0, none⟩ (.slice la1 n1 c1)).setCell ⟨H + 1, 0, none⟩ .nilIface).putObj D (.deferred none)) := Tn.put _ (.deferred none) hK' ⟨rfl, rfl⟩
    have br3 := br2.tn t3 (fun h => absurd h.2 (by simp))
    have er3 := er2.tn t3 (fun h => absurd h.2 (by simp))
    have o1 := hS.ol.tn t1 (fun b h => absurd (Option.some.inj h.2) (by decide)) (fun b _ h => absurd (Option.some.inj h.2) (by decide))
    have o2 := o1.tn t2 (fun b h => absurd (Option.some.inj h.2) (by decide)) (fun b _ h => absurd (Option.some.inj h.2) (by decide))
    have o3 := o2.tn t3 (fun b h => absurd h.2 (by simp)) (fun b _ h => absurd h.2 (by simp))
    have hlen := flat_len SS
    have hR := o3.rd (by omega)
    have hGf : Gr w (((W.setCell ⟨H, 0, none⟩ (.slice la1 n1 c1)).setCell ⟨H + 1, 0, none⟩ .nilIface).putObj D (.deferred none)) :=
      Gr.tn (Gr.tn (Gr.tn hgW t1 fun b t h => by have := h.1; omega) t2 fun b t h => by have := h.1; omega) t3 fun b t h => by have := h.1; omega
    have q1 := br3.cell 0; have q2 := er3.cell 0
    gi_wp2
    refine ⟨by simp, .inl ⟨_, _, rfl, run_takeDeferred hK', ?_⟩⟩
    refine ⟨.tuple #[.slice la1 n1 c1, .nilIface], ?_, ⟨_, rfl, hR, hGf⟩⟩
    simp [results, Tryz.f66, go_sem, q1, q2]
  case stop =>
    rintro D c pre W _ _ h _
    exact h.elim

end Ve
