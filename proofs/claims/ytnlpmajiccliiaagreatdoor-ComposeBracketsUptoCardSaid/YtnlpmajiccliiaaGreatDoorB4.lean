/- Walks of layer 6: joined. -/
import Derived.Test.YtnlpmajiccliiaaGreatDoorB1
set_option linter.all false
namespace Ve
open Go Go.RowKit Go.Proofs

theorem getLast_at {α : Type} {l : List α} {n : Nat} {q : α} (hl : l.length = n + 1) (hx : l[n]? = some q) : l.getLast? = some q := by
  rw [List.getLast?_eq_getElem?, hl]; exact hx
theorem joinedL_miss {l : List Piece} {q p : Piece} (h : l.getLast? = some q) (hj : joinTo q p = none) : joinedL l p = l ++ [p] := by simp [joinedL, h, hj]
theorem joinedL_hit {l : List Piece} {q p r : Piece} {n : Nat} (hl : l.length = n + 1) (h : l.getLast? = some q) (hj : joinTo q p = some r) : joinedL l p = l.set n r := by simp [joinedL, h, hj, hl]
def Piece.sizeOk : Piece → Prop
  | .ins _ t n => szS t ∧ 0 ≤ n ∧ n ≤ 1099511627776
  | .ret _ n => 0 ≤ n ∧ n ≤ 1099511627776
  | _ => True
def JoinOk (l : List Piece) (p : Piece) : Prop := ∀ q r, l.getLast? = some q → joinTo q p = some r → r.sizeOk
set_option maxRecDepth 4000 in
set_option maxHeartbeats 4000000 in
theorem joined_f (S : Nat → Prop) (l : List Piece) (p : Piece) (v pv : Value) (w : World) (hl : OwnF S w v l) (hp : PieceV w p pv) (hb : ∀ b, w.heap.size ≤ b → S b) (hm : l.length + 1 ≤ 1099511627776) (hj : JoinOk l p) :
    Calls Tryz.prog 124 #[v, pv] w fun e w' => ∃ v', e = .returned v' ∧ OwnF S w' v' (joinedL l p) ∧ Kg S pcT w w' := by
  obtain ⟨a, n, cap, rfl, hcap, hcm, hn⟩ := hl.sl
  have hp' := hp
  obtain ⟨T, y, rfl⟩ := hp.form
  by_cases hn0 : n = 0
  · subst hn0
    have hl0 : l = [] := List.eq_nil_of_length_eq_zero hn.out
    subst hl0
    have Hp := Lib.hid hp'; clear hp'
    go_enter Tryz.func124, Tryz.ntmps124
    go_wp2_with (at_builtin; refine wp_push (S := S) rfl (.tmp 17) (.tmp 19) rfl _ rfl rfl (OwnF.gr (w := w) hl ?g1) (PieceV.gr (w := w) Hp.out ?g1) hm (fun b h => hb b (Nat.le_trans (Gr.size (w := w) ?g1) h)) ?hi ?_; (case g1 => exact (by repeat (with_reducible first | assumption | exact Gr.refl _ | apply Gr.alloc | apply Gr.drewN | apply Gr.drew | apply Gr.iter | (refine Gr.setCell ?_ (by simp) _) | (refine Gr.trans ?_ (by assumption))))); (case hi => simp); intro v' w' hown hk; obtain ⟨na, nn, nc, rfl, -⟩ := hown.sl)
    go_ret
    exact ⟨_, rfl, hown, by (repeat (with_reducible first | exact Kg.refl _ | assumption | refine Kg.alloc ?_ _ | refine Kg.drewN ?_ _ | refine Kg.drew ?_ | (refine Kg.setB (e := 153) ?_ (by (repeat (with_reducible first | assumption | (apply Blk.bt; assumption) | (refine BT.set ?_ _ _) | (refine BT.far ?_ (by simp; omega) _) | refine BT.alloc ?_ _ | refine BT.drewN ?_ _ | refine BT.drew ?_ | (refine BT.gr ?_ (by assumption))))) (by decide) (by assumption) _ _) | (refine Kg.setNew ?_ (by simp; omega) _) | (refine Kg.trans_gr ?_ (by assumption)) | (refine Kg.trans ?_ (by assumption))))⟩
  · obtain ⟨m, rfl⟩ : ∃ m, n = m + 1 := ⟨n - 1, by omega⟩
    obtain ⟨g, q, qv, hx, rfl, hbg, hc, hf, hq⟩ := OwnP.at_ hl.1 m (by omega)
    have Hx := Lib.hid (getLast_at hn.out hx); clear hx
    have Hp := Lib.hid hp'; clear hp'
    have Hq := Lib.hid hq
    cases q with
    | del c =>
      obtain rfl := hq
      (go_enter Tryz.func124, Tryz.ntmps124; go_wp2_with (at_builtin; refine wp_push (S := S) rfl (.tmp 92) (.tmp 94) rfl _ rfl rfl (OwnF.gr (w := w) hl ?g1) (PieceV.gr (w := w) Hp.out ?g1) hm (fun b h => hb b (Nat.le_trans (Gr.size (w := w) ?g1) h)) ?hi ?_; (case g1 => exact (by repeat (with_reducible first | assumption | exact Gr.refl _ | apply Gr.alloc | apply Gr.drewN | apply Gr.drew | apply Gr.iter | (refine Gr.setCell ?_ (by simp) _) | (refine Gr.trans ?_ (by assumption))))); (case hi => simp); intro v' w' hown hk; obtain ⟨na, nn, nc, rfl, -⟩ := hown.sl); (go_ret; exact ⟨_, rfl, by rw [joinedL_miss Hx.out (by simp [joinTo])]; exact hown, by (repeat (with_reducible first | exact Kg.refl _ | assumption | refine Kg.alloc ?_ _ | refine Kg.drewN ?_ _ | refine Kg.drew ?_ | (refine Kg.setB (e := 153) ?_ (by (repeat (with_reducible first | assumption | (apply Blk.bt; assumption) | (refine BT.set ?_ _ _) | (refine BT.far ?_ (by simp; omega) _) | refine BT.alloc ?_ _ | refine BT.drewN ?_ _ | refine BT.drew ?_ | (refine BT.gr ?_ (by assumption))))) (by decide) (by assumption) _ _) | (refine Kg.setNew ?_ (by simp; omega) _) | (refine Kg.trans_gr ?_ (by assumption)) | (refine Kg.trans ?_ (by assumption))))⟩))
    | emb l1 t1 x1 =>
      obtain ⟨sl1, rfl, ho1, s1, s1'⟩ := hq
      obtain ⟨a1, m1, c1, rfl, -⟩ := ho1.1.sl
      obtain ⟨T1, y1, hv1⟩ := valV_form x1
      rw [hv1] at hc Hq
      have hv1 := Lib.hid hv1
      (go_enter Tryz.func124, Tryz.ntmps124; go_wp2_with (at_builtin; refine wp_push (S := S) rfl (.tmp 92) (.tmp 94) rfl _ rfl rfl (OwnF.gr (w := w) hl ?g1) (PieceV.gr (w := w) Hp.out ?g1) hm (fun b h => hb b (Nat.le_trans (Gr.size (w := w) ?g1) h)) ?hi ?_; (case g1 => exact (by repeat (with_reducible first | assumption | exact Gr.refl _ | apply Gr.alloc | apply Gr.drewN | apply Gr.drew | apply Gr.iter | (refine Gr.setCell ?_ (by simp) _) | (refine Gr.trans ?_ (by assumption))))); (case hi => simp); intro v' w' hown hk; obtain ⟨na, nn, nc, rfl, -⟩ := hown.sl); (go_ret; exact ⟨_, rfl, by rw [joinedL_miss Hx.out (by simp [joinTo])]; exact hown, by (repeat (with_reducible first | exact Kg.refl _ | assumption | refine Kg.alloc ?_ _ | refine Kg.drewN ?_ _ | refine Kg.drew ?_ | (refine Kg.setB (e := 153) ?_ (by (repeat (with_reducible first | assumption | (apply Blk.bt; assumption) | (refine BT.set ?_ _ _) | (refine BT.far ?_ (by simp; omega) _) | refine BT.alloc ?_ _ | refine BT.drewN ?_ _ | refine BT.drew ?_ | (refine BT.gr ?_ (by assumption))))) (by decide) (by assumption) _ _) | (refine Kg.setNew ?_ (by simp; omega) _) | (refine Kg.trans_gr ?_ (by assumption)) | (refine Kg.trans ?_ (by assumption))))⟩))
    | ins l1 t1 n1 =>
      obtain ⟨sl1, rfl, ho1, s1⟩ := hq
      obtain ⟨a1, m1, c1, rfl, -⟩ := ho1.1.sl
      cases p with
      | emb l2 t2 x2 =>
        obtain ⟨sl2, e, ho2, s2, s2'⟩ := hp
        obtain ⟨a2, m2, c2, rfl, -⟩ := ho2.1.sl
        (injection e with e1 e2; subst e1; subst e2)
        obtain ⟨T1, y1, hv1⟩ := valV_form x2
        rw [hv1] at Hp ⊢
        have hv1 := Lib.hid hv1
        (go_enter Tryz.func124, Tryz.ntmps124; go_wp2_with (at_builtin; refine wp_push (S := S) rfl (.tmp 92) (.tmp 94) rfl _ rfl rfl (OwnF.gr (w := w) hl ?g1) (PieceV.gr (w := w) Hp.out ?g1) hm (fun b h => hb b (Nat.le_trans (Gr.size (w := w) ?g1) h)) ?hi ?_; (case g1 => exact (by repeat (with_reducible first | assumption | exact Gr.refl _ | apply Gr.alloc | apply Gr.drewN | apply Gr.drew | apply Gr.iter | (refine Gr.setCell ?_ (by simp) _) | (refine Gr.trans ?_ (by assumption))))); (case hi => simp); intro v' w' hown hk; obtain ⟨na, nn, nc, rfl, -⟩ := hown.sl); (go_ret; exact ⟨_, rfl, by rw [joinedL_miss Hx.out (by simp [joinTo])]; exact hown, by (repeat (with_reducible first | exact Kg.refl _ | assumption | refine Kg.alloc ?_ _ | refine Kg.drewN ?_ _ | refine Kg.drew ?_ | (refine Kg.setB (e := 153) ?_ (by (repeat (with_reducible first | assumption | (apply Blk.bt; assumption) | (refine BT.set ?_ _ _) | (refine BT.far ?_ (by simp; omega) _) | refine BT.alloc ?_ _ | refine BT.drewN ?_ _ | refine BT.drew ?_ | (refine BT.gr ?_ (by assumption))))) (by decide) (by assumption) _ _) | (refine Kg.setNew ?_ (by simp; omega) _) | (refine Kg.trans_gr ?_ (by assumption)) | (refine Kg.trans ?_ (by assumption))))⟩))
      | ret l2 n2 =>
        obtain ⟨sl2, e, ho2⟩ := hp
        obtain ⟨a2, m2, c2, rfl, -⟩ := ho2.1.sl
        (injection e with e1 e2; subst e1; subst e2)
        (go_enter Tryz.func124, Tryz.ntmps124; go_wp2_with (at_builtin; refine wp_push (S := S) rfl (.tmp 92) (.tmp 94) rfl _ rfl rfl (OwnF.gr (w := w) hl ?g1) (PieceV.gr (w := w) Hp.out ?g1) hm (fun b h => hb b (Nat.le_trans (Gr.size (w := w) ?g1) h)) ?hi ?_; (case g1 => exact (by repeat (with_reducible first | assumption | exact Gr.refl _ | apply Gr.alloc | apply Gr.drewN | apply Gr.drew | apply Gr.iter | (refine Gr.setCell ?_ (by simp) _) | (refine Gr.trans ?_ (by assumption))))); (case hi => simp); intro v' w' hown hk; obtain ⟨na, nn, nc, rfl, -⟩ := hown.sl); (go_ret; exact ⟨_, rfl, by rw [joinedL_miss Hx.out (by simp [joinTo])]; exact hown, by (repeat (with_reducible first | exact Kg.refl _ | assumption | refine Kg.alloc ?_ _ | refine Kg.drewN ?_ _ | refine Kg.drew ?_ | (refine Kg.setB (e := 153) ?_ (by (repeat (with_reducible first | assumption | (apply Blk.bt; assumption) | (refine BT.set ?_ _ _) | (refine BT.far ?_ (by simp; omega) _) | refine BT.alloc ?_ _ | refine BT.drewN ?_ _ | refine BT.drew ?_ | (refine BT.gr ?_ (by assumption))))) (by decide) (by assumption) _ _) | (refine Kg.setNew ?_ (by simp; omega) _) | (refine Kg.trans_gr ?_ (by assumption)) | (refine Kg.trans ?_ (by assumption))))⟩))
      | del n2 =>
        have e := hp; clear hp
        simp only [PieceV] at e
        (injection e with e1 e2; subst e1; subst e2)
        (go_enter Tryz.func124, Tryz.ntmps124; go_wp2_with (at_builtin; refine wp_push (S := S) rfl (.tmp 92) (.tmp 94) rfl _ rfl rfl (OwnF.gr (w := w) hl ?g1) (PieceV.gr (w := w) Hp.out ?g1) hm (fun b h => hb b (Nat.le_trans (Gr.size (w := w) ?g1) h)) ?hi ?_; (case g1 => exact (by repeat (with_reducible first | assumption | exact Gr.refl _ | apply Gr.alloc | apply Gr.drewN | apply Gr.drew | apply Gr.iter | (refine Gr.setCell ?_ (by simp) _) | (refine Gr.trans ?_ (by assumption))))); (case hi => simp); intro v' w' hown hk; obtain ⟨na, nn, nc, rfl, -⟩ := hown.sl); (go_ret; exact ⟨_, rfl, by rw [joinedL_miss Hx.out (by simp [joinTo])]; exact hown, by (repeat (with_reducible first | exact Kg.refl _ | assumption | refine Kg.alloc ?_ _ | refine Kg.drewN ?_ _ | refine Kg.drew ?_ | (refine Kg.setB (e := 153) ?_ (by (repeat (with_reducible first | assumption | (apply Blk.bt; assumption) | (refine BT.set ?_ _ _) | (refine BT.far ?_ (by simp; omega) _) | refine BT.alloc ?_ _ | refine BT.drewN ?_ _ | refine BT.drew ?_ | (refine BT.gr ?_ (by assumption))))) (by decide) (by assumption) _ _) | (refine Kg.setNew ?_ (by simp; omega) _) | (refine Kg.trans_gr ?_ (by assumption)) | (refine Kg.trans ?_ (by assumption))))⟩))
      | ins l2 t2 n2 =>
        obtain ⟨sl2, e, ho2, s2⟩ := hp
        obtain ⟨a2, m2, c2, rfl, -⟩ := ho2.1.sl
        (injection e with e1 e2; subst e1; subst e2)
        by_cases heq : l1 = l2
        · subst heq
          have D : decide (l1 = l1) = true := by simp
          obtain ⟨hz, hz1, hz2⟩ := hj _ (.ins l1 (t1 ++ t2) (n1 + n2)) Hx.out (by simp [joinTo])
          have hz3 : t1.size + t2.size ≤ 9223372036854775807 := by have := hz.le; rwa [ByteArray.size_append] at this
          have Hz := Lib.hid hz; clear hz
          go_enter Tryz.func124, Tryz.ntmps124
          go_wp2_with (go_at_call 157; refine (same_any l1 l1 _ _ _ (RdAttrs.gr ho1.rd (by repeat (with_reducible first | assumption | exact Gr.refl _ | apply Gr.alloc | apply Gr.drewN | apply Gr.drew | apply Gr.iter | (refine Gr.setCell ?_ (by simp) _) | (refine Gr.trans ?_ (by assumption))))) (RdAttrs.gr ho2.rd (by repeat (with_reducible first | assumption | exact Gr.refl _ | apply Gr.alloc | apply Gr.drewN | apply Gr.drew | apply Gr.iter | (refine Gr.setCell ?_ (by simp) _) | (refine Gr.trans ?_ (by assumption)))))).mono ?_; rw [D]; rintro e w2 ⟨rfl, hg⟩; have hc0 := fun o => hg.cells w.heap.size o (by simp <;> omega); have hc1 := fun o => hg.cells (w.heap.size + 1) o (by simp <;> omega); have hcg := Gr.cell (w := w) (w' := w2) (by repeat (with_reducible first | assumption | exact Gr.refl _ | apply Gr.alloc | apply Gr.drewN | apply Gr.drew | apply Gr.iter | (refine Gr.setCell ?_ (by simp) _) | (refine Gr.trans ?_ (by assumption)))) hc; have hfg := (Gr.frozens (w := w) (w' := w2) (by repeat (with_reducible first | assumption | exact Gr.refl _ | apply Gr.alloc | apply Gr.drewN | apply Gr.drew | apply Gr.iter | (refine Gr.setCell ?_ (by simp) _) | (refine Gr.trans ?_ (by assumption)))) g m (cell_lt hc)).trans hf)
          go_ret
          have hput := OwnP.put (OwnF.gr (w := w) (w' := w2) hl (by repeat (with_reducible first | assumption | exact Gr.refl _ | apply Gr.alloc | apply Gr.drewN | apply Gr.drew | apply Gr.iter | (refine Gr.setCell ?_ (by simp) _) | (refine Gr.trans ?_ (by assumption))))).1 m (.ins l1 (t1 ++ t2) (n1 + n2)) (.iface 190 (.agg #[.slice a1 m1 c1, .string (t1 ++ t2), .int .i64 (n1 + n2)])) ⟨_, rfl, ho1.gr (w := w) (by repeat (with_reducible first | assumption | exact Gr.refl _ | apply Gr.alloc | apply Gr.drewN | apply Gr.drew | apply Gr.iter | (refine Gr.setCell ?_ (by simp) _) | (refine Gr.trans ?_ (by assumption)))), Hz.out⟩ (hl.2 g rfl)
          refine ⟨_, rfl, ?_, ?_⟩
          · rw [joinedL_hit (r := (.ins l1 (t1 ++ t2) (n1 + n2))) hn.out Hx.out (by simp [joinTo])]; exact ⟨hput.1, hl.2⟩
          · exact (Kg.of_gr (w := w) (w' := w2) (by repeat (with_reducible first | assumption | exact Gr.refl _ | apply Gr.alloc | apply Gr.drewN | apply Gr.drew | apply Gr.iter | (refine Gr.setCell ?_ (by simp) _) | (refine Gr.trans ?_ (by assumption))))).trans hput.2
        · have D : decide (l1 = l2) = false := by simpa using heq
          go_enter Tryz.func124, Tryz.ntmps124
          go_wp2_with (first | (go_at_call 157; refine (same_any l1 l2 _ _ _ (RdAttrs.gr ho1.rd (by repeat (with_reducible first | assumption | exact Gr.refl _ | apply Gr.alloc | apply Gr.drewN | apply Gr.drew | apply Gr.iter | (refine Gr.setCell ?_ (by simp) _) | (refine Gr.trans ?_ (by assumption))))) (RdAttrs.gr ho2.rd (by repeat (with_reducible first | assumption | exact Gr.refl _ | apply Gr.alloc | apply Gr.drewN | apply Gr.drew | apply Gr.iter | (refine Gr.setCell ?_ (by simp) _) | (refine Gr.trans ?_ (by assumption)))))).mono ?_; rw [D]; rintro e w2 ⟨rfl, hg⟩; have hc0 := fun o => hg.cells w.heap.size o (by simp <;> omega); have hc1 := fun o => hg.cells (w.heap.size + 1) o (by simp <;> omega); have hcg := Gr.cell (w := w) (w' := w2) (by repeat (with_reducible first | assumption | exact Gr.refl _ | apply Gr.alloc | apply Gr.drewN | apply Gr.drew | apply Gr.iter | (refine Gr.setCell ?_ (by simp) _) | (refine Gr.trans ?_ (by assumption)))) hc; have hfg := (Gr.frozens (w := w) (w' := w2) (by repeat (with_reducible first | assumption | exact Gr.refl _ | apply Gr.alloc | apply Gr.drewN | apply Gr.drew | apply Gr.iter | (refine Gr.setCell ?_ (by simp) _) | (refine Gr.trans ?_ (by assumption)))) g m (cell_lt hc)).trans hf) | (at_builtin; refine wp_push (S := S) rfl (.tmp 92) (.tmp 94) rfl _ rfl rfl (OwnF.gr (w := w) hl ?g1) (PieceV.gr (w := w) Hp.out ?g1) hm (fun b h => hb b (Nat.le_trans (Gr.size (w := w) ?g1) h)) ?hi ?_; (case g1 => exact (by repeat (with_reducible first | assumption | exact Gr.refl _ | apply Gr.alloc | apply Gr.drewN | apply Gr.drew | apply Gr.iter | (refine Gr.setCell ?_ (by simp) _) | (refine Gr.trans ?_ (by assumption))))); (case hi => simp); intro v' w' hown hk; obtain ⟨na, nn, nc, rfl, -⟩ := hown.sl))
          go_ret
          exact ⟨_, rfl, by rw [joinedL_miss Hx.out (by simp [joinTo, heq])]; exact hown, by (repeat (with_reducible first | exact Kg.refl _ | assumption | refine Kg.alloc ?_ _ | refine Kg.drewN ?_ _ | refine Kg.drew ?_ | (refine Kg.setB (e := 153) ?_ (by (repeat (with_reducible first | assumption | (apply Blk.bt; assumption) | (refine BT.set ?_ _ _) | (refine BT.far ?_ (by simp; omega) _) | refine BT.alloc ?_ _ | refine BT.drewN ?_ _ | refine BT.drew ?_ | (refine BT.gr ?_ (by assumption))))) (by decide) (by assumption) _ _) | (refine Kg.setNew ?_ (by simp; omega) _) | (refine Kg.trans_gr ?_ (by assumption)) | (refine Kg.trans ?_ (by assumption))))⟩
    | ret l1 n1 =>
      obtain ⟨sl1, rfl, ho1⟩ := hq
      obtain ⟨a1, m1, c1, rfl, -⟩ := ho1.1.sl
      cases p with
      | emb l2 t2 x2 =>
        obtain ⟨sl2, e, ho2, s2, s2'⟩ := hp
        obtain ⟨a2, m2, c2, rfl, -⟩ := ho2.1.sl
        (injection e with e1 e2; subst e1; subst e2)
        obtain ⟨T1, y1, hv1⟩ := valV_form x2
        rw [hv1] at Hp ⊢
        have hv1 := Lib.hid hv1
        (go_enter Tryz.func124, Tryz.ntmps124; go_wp2_with (at_builtin; refine wp_push (S := S) rfl (.tmp 92) (.tmp 94) rfl _ rfl rfl (OwnF.gr (w := w) hl ?g1) (PieceV.gr (w := w) Hp.out ?g1) hm (fun b h => hb b (Nat.le_trans (Gr.size (w := w) ?g1) h)) ?hi ?_; (case g1 => exact (by repeat (with_reducible first | assumption | exact Gr.refl _ | apply Gr.alloc | apply Gr.drewN | apply Gr.drew | apply Gr.iter | (refine Gr.setCell ?_ (by simp) _) | (refine Gr.trans ?_ (by assumption))))); (case hi => simp); intro v' w' hown hk; obtain ⟨na, nn, nc, rfl, -⟩ := hown.sl); (go_ret; exact ⟨_, rfl, by rw [joinedL_miss Hx.out (by simp [joinTo])]; exact hown, by (repeat (with_reducible first | exact Kg.refl _ | assumption | refine Kg.alloc ?_ _ | refine Kg.drewN ?_ _ | refine Kg.drew ?_ | (refine Kg.setB (e := 153) ?_ (by (repeat (with_reducible first | assumption | (apply Blk.bt; assumption) | (refine BT.set ?_ _ _) | (refine BT.far ?_ (by simp; omega) _) | refine BT.alloc ?_ _ | refine BT.drewN ?_ _ | refine BT.drew ?_ | (refine BT.gr ?_ (by assumption))))) (by decide) (by assumption) _ _) | (refine Kg.setNew ?_ (by simp; omega) _) | (refine Kg.trans_gr ?_ (by assumption)) | (refine Kg.trans ?_ (by assumption))))⟩))
      | ins l2 t2 n2 =>
        obtain ⟨sl2, e, ho2, s2⟩ := hp
        obtain ⟨a2, m2, c2, rfl, -⟩ := ho2.1.sl
        (injection e with e1 e2; subst e1; subst e2)
        (go_enter Tryz.func124, Tryz.ntmps124; go_wp2_with (at_builtin; refine wp_push (S := S) rfl (.tmp 92) (.tmp 94) rfl _ rfl rfl (OwnF.gr (w := w) hl ?g1) (PieceV.gr (w := w) Hp.out ?g1) hm (fun b h => hb b (Nat.le_trans (Gr.size (w := w) ?g1) h)) ?hi ?_; (case g1 => exact (by repeat (with_reducible first | assumption | exact Gr.refl _ | apply Gr.alloc | apply Gr.drewN | apply Gr.drew | apply Gr.iter | (refine Gr.setCell ?_ (by simp) _) | (refine Gr.trans ?_ (by assumption))))); (case hi => simp); intro v' w' hown hk; obtain ⟨na, nn, nc, rfl, -⟩ := hown.sl); (go_ret; exact ⟨_, rfl, by rw [joinedL_miss Hx.out (by simp [joinTo])]; exact hown, by (repeat (with_reducible first | exact Kg.refl _ | assumption | refine Kg.alloc ?_ _ | refine Kg.drewN ?_ _ | refine Kg.drew ?_ | (refine Kg.setB (e := 153) ?_ (by (repeat (with_reducible first | assumption | (apply Blk.bt; assumption) | (refine BT.set ?_ _ _) | (refine BT.far ?_ (by simp; omega) _) | refine BT.alloc ?_ _ | refine BT.drewN ?_ _ | refine BT.drew ?_ | (refine BT.gr ?_ (by assumption))))) (by decide) (by assumption) _ _) | (refine Kg.setNew ?_ (by simp; omega) _) | (refine Kg.trans_gr ?_ (by assumption)) | (refine Kg.trans ?_ (by assumption))))⟩))
      | del n2 =>
        have e := hp; clear hp
        simp only [PieceV] at e
        (injection e with e1 e2; subst e1; subst e2)
        (go_enter Tryz.func124, Tryz.ntmps124; go_wp2_with (at_builtin; refine wp_push (S := S) rfl (.tmp 92) (.tmp 94) rfl _ rfl rfl (OwnF.gr (w := w) hl ?g1) (PieceV.gr (w := w) Hp.out ?g1) hm (fun b h => hb b (Nat.le_trans (Gr.size (w := w) ?g1) h)) ?hi ?_; (case g1 => exact (by repeat (with_reducible first | assumption | exact Gr.refl _ | apply Gr.alloc | apply Gr.drewN | apply Gr.drew | apply Gr.iter | (refine Gr.setCell ?_ (by simp) _) | (refine Gr.trans ?_ (by assumption))))); (case hi => simp); intro v' w' hown hk; obtain ⟨na, nn, nc, rfl, -⟩ := hown.sl); (go_ret; exact ⟨_, rfl, by rw [joinedL_miss Hx.out (by simp [joinTo])]; exact hown, by (repeat (with_reducible first | exact Kg.refl _ | assumption | refine Kg.alloc ?_ _ | refine Kg.drewN ?_ _ | refine Kg.drew ?_ | (refine Kg.setB (e := 153) ?_ (by (repeat (with_reducible first | assumption | (apply Blk.bt; assumption) | (refine BT.set ?_ _ _) | (refine BT.far ?_ (by simp; omega) _) | refine BT.alloc ?_ _ | refine BT.drewN ?_ _ | refine BT.drew ?_ | (refine BT.gr ?_ (by assumption))))) (by decide) (by assumption) _ _) | (refine Kg.setNew ?_ (by simp; omega) _) | (refine Kg.trans_gr ?_ (by assumption)) | (refine Kg.trans ?_ (by assumption))))⟩))
      | ret l2 n2 =>
        obtain ⟨sl2, e, ho2⟩ := hp
        obtain ⟨a2, m2, c2, rfl, -⟩ := ho2.1.sl
        (injection e with e1 e2; subst e1; subst e2)
        by_cases heq : l1 = l2
        · subst heq
          have D : decide (l1 = l1) = true := by simp
          obtain ⟨hz1, hz2⟩ := hj _ (.ret l1 (n1 + n2)) Hx.out (by simp [joinTo])
          go_enter Tryz.func124, Tryz.ntmps124
          go_wp2_with (go_at_call 157; refine (same_any l1 l1 _ _ _ (RdAttrs.gr ho1.rd (by repeat (with_reducible first | assumption | exact Gr.refl _ | apply Gr.alloc | apply Gr.drewN | apply Gr.drew | apply Gr.iter | (refine Gr.setCell ?_ (by simp) _) | (refine Gr.trans ?_ (by assumption))))) (RdAttrs.gr ho2.rd (by repeat (with_reducible first | assumption | exact Gr.refl _ | apply Gr.alloc | apply Gr.drewN | apply Gr.drew | apply Gr.iter | (refine Gr.setCell ?_ (by simp) _) | (refine Gr.trans ?_ (by assumption)))))).mono ?_; rw [D]; rintro e w2 ⟨rfl, hg⟩; have hc0 := fun o => hg.cells w.heap.size o (by simp <;> omega); have hc1 := fun o => hg.cells (w.heap.size + 1) o (by simp <;> omega); have hcg := Gr.cell (w := w) (w' := w2) (by repeat (with_reducible first | assumption | exact Gr.refl _ | apply Gr.alloc | apply Gr.drewN | apply Gr.drew | apply Gr.iter | (refine Gr.setCell ?_ (by simp) _) | (refine Gr.trans ?_ (by assumption)))) hc; have hfg := (Gr.frozens (w := w) (w' := w2) (by repeat (with_reducible first | assumption | exact Gr.refl _ | apply Gr.alloc | apply Gr.drewN | apply Gr.drew | apply Gr.iter | (refine Gr.setCell ?_ (by simp) _) | (refine Gr.trans ?_ (by assumption)))) g m (cell_lt hc)).trans hf)
          go_ret
          have hput := OwnP.put (OwnF.gr (w := w) (w' := w2) hl (by repeat (with_reducible first | assumption | exact Gr.refl _ | apply Gr.alloc | apply Gr.drewN | apply Gr.drew | apply Gr.iter | (refine Gr.setCell ?_ (by simp) _) | (refine Gr.trans ?_ (by assumption))))).1 m (.ret l1 (n1 + n2)) (.iface 113 (.agg #[.slice a1 m1 c1, .int .i64 (n1 + n2)])) ⟨_, rfl, ho1.gr (w := w) (by repeat (with_reducible first | assumption | exact Gr.refl _ | apply Gr.alloc | apply Gr.drewN | apply Gr.drew | apply Gr.iter | (refine Gr.setCell ?_ (by simp) _) | (refine Gr.trans ?_ (by assumption))))⟩ (hl.2 g rfl)
          refine ⟨_, rfl, ?_, ?_⟩
          · rw [joinedL_hit (r := (.ret l1 (n1 + n2))) hn.out Hx.out (by simp [joinTo])]; exact ⟨hput.1, hl.2⟩
          · exact (Kg.of_gr (w := w) (w' := w2) (by repeat (with_reducible first | assumption | exact Gr.refl _ | apply Gr.alloc | apply Gr.drewN | apply Gr.drew | apply Gr.iter | (refine Gr.setCell ?_ (by simp) _) | (refine Gr.trans ?_ (by assumption))))).trans hput.2
        · have D : decide (l1 = l2) = false := by simpa using heq
          go_enter Tryz.func124, Tryz.ntmps124
          go_wp2_with (first | (go_at_call 157; refine (same_any l1 l2 _ _ _ (RdAttrs.gr ho1.rd (by repeat (with_reducible first | assumption | exact Gr.refl _ | apply Gr.alloc | apply Gr.drewN | apply Gr.drew | apply Gr.iter | (refine Gr.setCell ?_ (by simp) _) | (refine Gr.trans ?_ (by assumption))))) (RdAttrs.gr ho2.rd (by repeat (with_reducible first | assumption | exact Gr.refl _ | apply Gr.alloc | apply Gr.drewN | apply Gr.drew | apply Gr.iter | (refine Gr.setCell ?_ (by simp) _) | (refine Gr.trans ?_ (by assumption)))))).mono ?_; rw [D]; rintro e w2 ⟨rfl, hg⟩; have hc0 := fun o => hg.cells w.heap.size o (by simp <;> omega); have hc1 := fun o => hg.cells (w.heap.size + 1) o (by simp <;> omega); have hcg := Gr.cell (w := w) (w' := w2) (by repeat (with_reducible first | assumption | exact Gr.refl _ | apply Gr.alloc | apply Gr.drewN | apply Gr.drew | apply Gr.iter | (refine Gr.setCell ?_ (by simp) _) | (refine Gr.trans ?_ (by assumption)))) hc; have hfg := (Gr.frozens (w := w) (w' := w2) (by repeat (with_reducible first | assumption | exact Gr.refl _ | apply Gr.alloc | apply Gr.drewN | apply Gr.drew | apply Gr.iter | (refine Gr.setCell ?_ (by simp) _) | (refine Gr.trans ?_ (by assumption)))) g m (cell_lt hc)).trans hf) | (at_builtin; refine wp_push (S := S) rfl (.tmp 92) (.tmp 94) rfl _ rfl rfl (OwnF.gr (w := w) hl ?g1) (PieceV.gr (w := w) Hp.out ?g1) hm (fun b h => hb b (Nat.le_trans (Gr.size (w := w) ?g1) h)) ?hi ?_; (case g1 => exact (by repeat (with_reducible first | assumption | exact Gr.refl _ | apply Gr.alloc | apply Gr.drewN | apply Gr.drew | apply Gr.iter | (refine Gr.setCell ?_ (by simp) _) | (refine Gr.trans ?_ (by assumption))))); (case hi => simp); intro v' w' hown hk; obtain ⟨na, nn, nc, rfl, -⟩ := hown.sl))
          go_ret
          exact ⟨_, rfl, by rw [joinedL_miss Hx.out (by simp [joinTo, heq])]; exact hown, by (repeat (with_reducible first | exact Kg.refl _ | assumption | refine Kg.alloc ?_ _ | refine Kg.drewN ?_ _ | refine Kg.drew ?_ | (refine Kg.setB (e := 153) ?_ (by (repeat (with_reducible first | assumption | (apply Blk.bt; assumption) | (refine BT.set ?_ _ _) | (refine BT.far ?_ (by simp; omega) _) | refine BT.alloc ?_ _ | refine BT.drewN ?_ _ | refine BT.drew ?_ | (refine BT.gr ?_ (by assumption))))) (by decide) (by assumption) _ _) | (refine Kg.setNew ?_ (by simp; omega) _) | (refine Kg.trans_gr ?_ (by assumption)) | (refine Kg.trans ?_ (by assumption))))⟩
end Ve
