/- Walks: walk.cut. -/
import Derived.Test.YtapolkhdikdjbaaGreatDoorW1
set_option linter.all false
namespace Ve
open Go Go.RowKit Go.Proofs

set_option maxRecDepth 4000 in
set_option maxHeartbeats 4000000 in
theorem wcut_ret {ea : Nat → Addr} (l : List Attr) (m : Int) (v : Value) (n : Nat) (w : World) (hE : Env ea w) (hp : PieceV w (Piece.ret l m) v) (hok : pOk (Piece.ret l m)) (h1 : 1 ≤ n) (h2 : (n : Int) < (Piece.ret l m).len) :
    Calls Tryz.prog 92 #[v, .int .i64 n] w fun e w' => ∃ v1 v2, e = .returned (.tuple #[v1, v2]) ∧ PieceV w' (cutP (Piece.ret l m) n).1 v1 ∧ PieceV w' (cutP (Piece.ret l m) n).2 v2 ∧ Gr w w' := by
  obtain ⟨sl, rfl, ho⟩ := hp
  obtain ⟨k1, k2, k3⟩ := ret_ok.1 hok
  simp only [Piece.len] at h2
  simp only [cutP]
  have hb := ho.2
  obtain ⟨a, an, ac, rfl, -⟩ := ho.1.sl
  have HO := Lib.hid ho; clear ho hok k3
  go_enter Tryz.func92, Tryz.ntmps92
  go_wp2
  obtain ⟨W, hW, -, B1, hg⟩ := blk2 w 160 #[.slice none 0 0, .string ⟨#[]⟩, .int .i64 0] 128 #[.slice a an ac, .int .i64 m]
  rw [hW]
  have HW := Lib.hid hW; clear hW
  have b0 := B1.cell 0
  have b1 := B1.cell 1
  simp at b0 b1
  have q0 := B1.lt
  have hfirst : True := trivial
  have hw := Lib.hid (show IntKind.i64.wrap (m - n) = m - n from IntWalk.i64_in _ (by omega))
  go_region_with (first
    | (go_at_call 150; clear hfirst; refine (wown_any l _ _ (RdAttrs.gr (w := w) HO.out.rd (by repeat (with_reducible first | assumption | exact Gr.refl _ | apply Gr.alloc | apply Gr.drewN | apply Gr.drew | apply Gr.iter | (refine Gr.setCell ?_ (by simp) _) | (refine Gr.trans ?_ (by assumption)))))).mono ?_; rintro e w2 ⟨v2, rfl, ho2, hg2⟩; obtain ⟨a2, n2, c2, rfl, -⟩ := ho2.sl; have HA2 := Lib.hid (OwnAL.rd ho2 hb); clear ho2; have d2 := fun o => (Gr.cells (w := W) (w' := w2) (by repeat (with_reducible first | assumption | exact Gr.refl _ | apply Gr.alloc | apply Gr.drewN | apply Gr.drew | apply Gr.iter | (refine Gr.setCell ?_ (by simp) _) | (refine Gr.trans ?_ (by assumption))))) (w.heap.size + 1) o q0; have y2 : W.heap.size ≤ w2.heap.size := Gr.size (w := W) (w' := w2) (by repeat (with_reducible first | assumption | exact Gr.refl _ | apply Gr.alloc | apply Gr.drewN | apply Gr.drew | apply Gr.iter | (refine Gr.setCell ?_ (by simp) _) | (refine Gr.trans ?_ (by assumption)))))
    | (go_at_call 150; refine (wown_any l _ _ (RdAttrs.gr (w := w) HO.out.rd (by repeat (with_reducible first | assumption | exact Gr.refl _ | apply Gr.alloc | apply Gr.drewN | apply Gr.drew | apply Gr.iter | (refine Gr.setCell ?_ (by simp) _) | (refine Gr.trans ?_ (by assumption)))))).mono ?_; rintro e w3 ⟨v3, rfl, ho3, hg3⟩; obtain ⟨a3, n3, c3, rfl, -⟩ := ho3.sl; have HA3 := Lib.hid (OwnAL.rd ho3 hb); clear ho3; have d3 := fun o => (Gr.cells (w := W) (w' := w3) (by repeat (with_reducible first | assumption | exact Gr.refl _ | apply Gr.alloc | apply Gr.drewN | apply Gr.drew | apply Gr.iter | (refine Gr.setCell ?_ (by simp) _) | (refine Gr.trans ?_ (by assumption))))) (w.heap.size + 1) o q0; have y3 : W.heap.size ≤ w3.heap.size := Gr.size (w := W) (w' := w3) (by repeat (with_reducible first | assumption | exact Gr.refl _ | apply Gr.alloc | apply Gr.drewN | apply Gr.drew | apply Gr.iter | (refine Gr.setCell ?_ (by simp) _) | (refine Gr.trans ?_ (by assumption))))))
  all_goals go_wp2
  all_goals first
    | exact bodyPost_ret (v := .tuple #[.iface 128 (.agg #[.slice a2 n2 c2, .int .i64 n]), .iface 128 (.agg #[.slice a3 n3 c3, .int .i64 (m - n)])]) (by simp [results, Tryz.results92, go_sem, hw.out]; done) rfl ⟨_, _, rfl, ⟨_, rfl, OwnA.gr (w := w2) HA2.out (by repeat (with_reducible first | assumption | exact Gr.refl _ | apply Gr.alloc | apply Gr.drewN | apply Gr.drew | apply Gr.iter | (refine Gr.setCell ?_ (by simp) _) | (refine Gr.trans ?_ (by assumption))))⟩, ⟨_, rfl, OwnA.gr (w := w3) HA3.out (by repeat (with_reducible first | assumption | exact Gr.refl _ | apply Gr.alloc | apply Gr.drewN | apply Gr.drew | apply Gr.iter | (refine Gr.setCell ?_ (by simp) _) | (refine Gr.trans ?_ (by assumption))))⟩, (by repeat (with_reducible first | assumption | exact Gr.refl _ | apply Gr.alloc | apply Gr.drewN | apply Gr.drew | apply Gr.iter | (refine Gr.setCell ?_ (by simp) _) | (refine Gr.trans ?_ (by assumption))))⟩
    | exact bodyPost_ret (v := .tuple #[.iface 128 (.agg #[.slice a3 n3 c3, .int .i64 n]), .iface 128 (.agg #[.slice a2 n2 c2, .int .i64 (m - n)])]) (by simp [results, Tryz.results92, go_sem, hw.out]; done) rfl ⟨_, _, rfl, ⟨_, rfl, OwnA.gr (w := w3) HA3.out (by repeat (with_reducible first | assumption | exact Gr.refl _ | apply Gr.alloc | apply Gr.drewN | apply Gr.drew | apply Gr.iter | (refine Gr.setCell ?_ (by simp) _) | (refine Gr.trans ?_ (by assumption))))⟩, ⟨_, rfl, OwnA.gr (w := w2) HA2.out (by repeat (with_reducible first | assumption | exact Gr.refl _ | apply Gr.alloc | apply Gr.drewN | apply Gr.drew | apply Gr.iter | (refine Gr.setCell ?_ (by simp) _) | (refine Gr.trans ?_ (by assumption))))⟩, (by repeat (with_reducible first | assumption | exact Gr.refl _ | apply Gr.alloc | apply Gr.drewN | apply Gr.drew | apply Gr.iter | (refine Gr.setCell ?_ (by simp) _) | (refine Gr.trans ?_ (by assumption))))⟩
end Ve
