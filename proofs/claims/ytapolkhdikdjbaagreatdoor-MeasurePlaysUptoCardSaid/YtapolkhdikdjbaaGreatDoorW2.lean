/- Walks: walk.cut. -/
import Derived.Test.YtapolkhdikdjbaaGreatDoorW1
set_option linter.all false
namespace Ve
open Go Go.RowKit Go.Proofs

set_option maxRecDepth 4000 in
set_option maxHeartbeats 4000000 in
theorem wcut_ins {ea : Nat → Addr} (l : List Attr) (t : ByteArray) (m : Int) (v : Value) (n : Nat) (w : World) (hE : Env ea w) (hp : PieceV w (Piece.ins l t m) v) (hok : pOk (Piece.ins l t m)) (h1 : 1 ≤ n) (h2 : (n : Int) < (Piece.ins l t m).len) :
    Calls Tryz.prog 92 #[v, .int .i64 n] w fun e w' => ∃ v1 v2, e = .returned (.tuple #[v1, v2]) ∧ PieceV w' (cutP (Piece.ins l t m) n).1 v1 ∧ PieceV w' (cutP (Piece.ins l t m) n).2 v2 ∧ Gr w w' := by
  obtain ⟨sl, rfl, ho, hs⟩ := hp
  obtain ⟨k1, k2, k3, k4⟩ := ins_ok.1 hok
  simp only [Piece.len] at h2
  have hle : n ≤ (runes t).length := by omega
  have hm : m ≤ 1099511627776 := by have := runes_le t; have := hs.le40; omega
  obtain ⟨z1, z2⟩ := text_take_sz k2 hs n
  obtain ⟨A, hA⟩ : ∃ A, textL ((runes t).take n) = A := ⟨_, rfl⟩
  obtain ⟨B, hB⟩ : ∃ B, textL ((runes t).drop n) = B := ⟨_, rfl⟩
  simp only [cutP, Int.toNat_natCast]
  rw [hA] at z1 ⊢
  rw [hB] at z2 ⊢
  have HT := Lib.hid (And.intro hA hB); clear hA hB
  have HK := Lib.hid k2; clear k1 k2 k3 k4 hok
  have hb := ho.2
  obtain ⟨a, an, ac, rfl, -⟩ := ho.1.sl
  have HO := Lib.hid ho; clear ho
  go_enter Tryz.func92, Tryz.ntmps92
  go_wp2_with (go_at_call 149; refine (scut_any t n _ (hE.gr (by repeat (with_reducible first | assumption | exact Gr.refl _ | apply Gr.alloc | apply Gr.drewN | apply Gr.drew | apply Gr.iter | (refine Gr.setCell ?_ (by simp) _) | (refine Gr.trans ?_ (by assumption))))) hs HK.out hle).mono ?_; rw [HT.out.1, HT.out.2]; rintro e w1 ⟨rfl, hg1⟩; have c0 := fun o => hg1.cells w.heap.size o (by simp); have z0 : w.heap.size < w1.heap.size := Gr.lt hg1)
  have hfirst : True := trivial
  have hw := Lib.hid (show IntKind.i64.wrap (m - n) = m - n from IntWalk.i64_in _ (by omega))
  go_region_with (first
    | (go_at_call 150; clear hfirst; refine (wown_any l _ _ (RdAttrs.gr (w := w) HO.out.rd (by repeat (with_reducible first | assumption | exact Gr.refl _ | apply Gr.alloc | apply Gr.drewN | apply Gr.drew | apply Gr.iter | (refine Gr.setCell ?_ (by simp) _) | (refine Gr.trans ?_ (by assumption)))))).mono ?_; rintro e w2 ⟨v2, rfl, ho2, hg2⟩; obtain ⟨a2, n2, c2, rfl, -⟩ := ho2.sl; have HA2 := Lib.hid (OwnAL.rd ho2 hb); clear ho2; have d2 := fun o => (Gr.cells (w := w1) (w' := w2) (by repeat (with_reducible first | assumption | exact Gr.refl _ | apply Gr.alloc | apply Gr.drewN | apply Gr.drew | apply Gr.iter | (refine Gr.setCell ?_ (by simp) _) | (refine Gr.trans ?_ (by assumption))))) w.heap.size o (by omega); have y2 : w1.heap.size ≤ w2.heap.size := Gr.size (w := w1) (w' := w2) (by repeat (with_reducible first | assumption | exact Gr.refl _ | apply Gr.alloc | apply Gr.drewN | apply Gr.drew | apply Gr.iter | (refine Gr.setCell ?_ (by simp) _) | (refine Gr.trans ?_ (by assumption)))))
    | (go_at_call 150; refine (wown_any l _ _ (RdAttrs.gr (w := w) HO.out.rd (by repeat (with_reducible first | assumption | exact Gr.refl _ | apply Gr.alloc | apply Gr.drewN | apply Gr.drew | apply Gr.iter | (refine Gr.setCell ?_ (by simp) _) | (refine Gr.trans ?_ (by assumption)))))).mono ?_; rintro e w3 ⟨v3, rfl, ho3, hg3⟩; obtain ⟨a3, n3, c3, rfl, -⟩ := ho3.sl; have HA3 := Lib.hid (OwnAL.rd ho3 hb); clear ho3; have d3 := fun o => (Gr.cells (w := w1) (w' := w3) (by repeat (with_reducible first | assumption | exact Gr.refl _ | apply Gr.alloc | apply Gr.drewN | apply Gr.drew | apply Gr.iter | (refine Gr.setCell ?_ (by simp) _) | (refine Gr.trans ?_ (by assumption))))) w.heap.size o (by omega); have y3 : w1.heap.size ≤ w3.heap.size := Gr.size (w := w1) (w' := w3) (by repeat (with_reducible first | assumption | exact Gr.refl _ | apply Gr.alloc | apply Gr.drewN | apply Gr.drew | apply Gr.iter | (refine Gr.setCell ?_ (by simp) _) | (refine Gr.trans ?_ (by assumption))))))
  all_goals go_wp2
  all_goals first
    | exact bodyPost_ret (v := .tuple #[.iface 160 (.agg #[.slice a2 n2 c2, .string A, .int .i64 n]), .iface 160 (.agg #[.slice a3 n3 c3, .string B, .int .i64 (m - n)])]) (by simp [results, Tryz.results92, go_sem, hw.out]; done) rfl ⟨_, _, rfl, ⟨_, rfl, OwnA.gr (w := w2) HA2.out (by repeat (with_reducible first | assumption | exact Gr.refl _ | apply Gr.alloc | apply Gr.drewN | apply Gr.drew | apply Gr.iter | (refine Gr.setCell ?_ (by simp) _) | (refine Gr.trans ?_ (by assumption)))), z1⟩, ⟨_, rfl, OwnA.gr (w := w3) HA3.out (by repeat (with_reducible first | assumption | exact Gr.refl _ | apply Gr.alloc | apply Gr.drewN | apply Gr.drew | apply Gr.iter | (refine Gr.setCell ?_ (by simp) _) | (refine Gr.trans ?_ (by assumption)))), z2⟩, (by repeat (with_reducible first | assumption | exact Gr.refl _ | apply Gr.alloc | apply Gr.drewN | apply Gr.drew | apply Gr.iter | (refine Gr.setCell ?_ (by simp) _) | (refine Gr.trans ?_ (by assumption))))⟩
    | exact bodyPost_ret (v := .tuple #[.iface 160 (.agg #[.slice a3 n3 c3, .string A, .int .i64 n]), .iface 160 (.agg #[.slice a2 n2 c2, .string B, .int .i64 (m - n)])]) (by simp [results, Tryz.results92, go_sem, hw.out]; done) rfl ⟨_, _, rfl, ⟨_, rfl, OwnA.gr (w := w3) HA3.out (by repeat (with_reducible first | assumption | exact Gr.refl _ | apply Gr.alloc | apply Gr.drewN | apply Gr.drew | apply Gr.iter | (refine Gr.setCell ?_ (by simp) _) | (refine Gr.trans ?_ (by assumption)))), z1⟩, ⟨_, rfl, OwnA.gr (w := w2) HA2.out (by repeat (with_reducible first | assumption | exact Gr.refl _ | apply Gr.alloc | apply Gr.drewN | apply Gr.drew | apply Gr.iter | (refine Gr.setCell ?_ (by simp) _) | (refine Gr.trans ?_ (by assumption)))), z2⟩, (by repeat (with_reducible first | assumption | exact Gr.refl _ | apply Gr.alloc | apply Gr.drewN | apply Gr.drew | apply Gr.iter | (refine Gr.setCell ?_ (by simp) _) | (refine Gr.trans ?_ (by assumption))))⟩
end Ve
