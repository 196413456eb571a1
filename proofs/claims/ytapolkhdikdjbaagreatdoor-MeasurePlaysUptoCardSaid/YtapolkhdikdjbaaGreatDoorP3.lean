/- Walks of the pieces' methods, by pieces. -/
import Derived.Test.YtapolkhdikdjbaaGreatDoorP2
set_option linter.all false
namespace Ve
open Go Go.RowKit Go.Proofs

theorem OwnAL.rd {base : Nat} {w : World} {v : Value} {l : List Attr} (h : OwnL AttrR 4 base 83 w v l) (hb : l.length ≤ 1099511627776) : OwnA w v l := ⟨h.base_le (Nat.zero_le _), hb⟩
set_option maxHeartbeats 2000000 in
theorem embOp_any (l : List Attr) (sl : Value) (t : ByteArray) (p : Plain) (w : World) (hl : RdAttrs w sl l) (hp : kindOk p = true) :
    Calls Tryz.prog 237 #[.agg #[sl, .string t, valV p]] w fun e w' => ∃ v', e = .returned (.agg #[.int .i64 2, .string t, .int .i64 p.kind, .int .i64 p.num, .string p.text, .int .i64 0, v']) ∧ OwnL AttrR 4 w.heap.size 83 w' v' l ∧ Gr w w' := by
  obtain ⟨a, k, cap, rfl, -, -, hb, hn⟩ := hl.sl
  obtain ⟨T, y, f, hv, hm, he, hc⟩ := plain_meth p hp
  rw [hv]
  have HV := Lib.hid hv; clear hv
  have HC := Lib.hid hc; clear hc
  go_enter Tryz.func237, Tryz.ntmps237
  go_wp2
  obtain ⟨W, hW, B1, B2, hg⟩ := blk2 w 164 #[.slice a k cap, .string t, .iface T y] 46 #[.int .i64 0, .string ⟨#[]⟩, .int .i64 0, .int .i64 0, .string ⟨#[]⟩, .int .i64 0, .slice none 0 0]
  have q0 := B1.cell 0
  have q1 := B1.cell 1
  have q2 := B1.cell 2
  simp at q0 q1 q2
  rw [hW]
  have HW := Lib.hid hW; clear hW
  go_region_with (first | (go_at_call 172; refine (attrs_any l _ _ (RdAttrs.gr hl (by repeat (with_reducible first | assumption | exact Gr.refl _ | apply Gr.alloc | apply Gr.drewN | apply Gr.drew | apply Gr.iter | (refine Gr.setCell ?_ (by simp) _) | (refine Gr.trans ?_ (by assumption)))))).mono ?_; rintro e w3 ⟨v', rfl, ho, hg3⟩; obtain ⟨a', n', c', rfl, -⟩ := ho.sl; have b3 := (B2.gr (w' := w3) (by repeat (with_reducible first | assumption | exact Gr.refl _ | apply Gr.alloc | apply Gr.drewN | apply Gr.drew | apply Gr.iter | (refine Gr.setCell ?_ (by simp) _) | (refine Gr.trans ?_ (by assumption))))).cell; have f3 := (B2.gr (w' := w3) (by repeat (with_reducible first | assumption | exact Gr.refl _ | apply Gr.alloc | apply Gr.drewN | apply Gr.drew | apply Gr.iter | (refine Gr.setCell ?_ (by simp) _) | (refine Gr.trans ?_ (by assumption))))).frozen; have b1 := (B1.gr (w' := w3) (by repeat (with_reducible first | assumption | exact Gr.refl _ | apply Gr.alloc | apply Gr.drewN | apply Gr.drew | apply Gr.iter | (refine Gr.setCell ?_ (by simp) _) | (refine Gr.trans ?_ (by assumption))))).cell) | (go_at_fn f; refine (HC.out _).mono ?_; rintro e w2 ⟨rfl, hg2⟩; dsimp only [plainV]; have b2 := (B1.gr (w' := w2) (by repeat (with_reducible first | assumption | exact Gr.refl _ | apply Gr.alloc | apply Gr.drewN | apply Gr.drew | apply Gr.iter | (refine Gr.setCell ?_ (by simp) _) | (refine Gr.trans ?_ (by assumption))))).cell; have b4 := (B2.gr (w' := w2) (by repeat (with_reducible first | assumption | exact Gr.refl _ | apply Gr.alloc | apply Gr.drewN | apply Gr.drew | apply Gr.iter | (refine Gr.setCell ?_ (by simp) _) | (refine Gr.trans ?_ (by assumption))))).cell; have f4 := (B2.gr (w' := w2) (by repeat (with_reducible first | assumption | exact Gr.refl _ | apply Gr.alloc | apply Gr.drewN | apply Gr.drew | apply Gr.iter | (refine Gr.setCell ?_ (by simp) _) | (refine Gr.trans ?_ (by assumption))))).frozen))
  all_goals first
   | (go_wp2
      have B3 := ((((((((B2.gr (w' := w3) (by repeat (with_reducible first | assumption | exact Gr.refl _ | apply Gr.alloc | apply Gr.drewN | apply Gr.drew | apply Gr.iter | (refine Gr.setCell ?_ (by simp) _) | (refine Gr.trans ?_ (by assumption))))).set 0 (.int .i64 2)).set 1 (.string t)).set 2 (.int .i64 p.kind)).set 3 (.int .i64 p.num)).set 4 (.string p.text)).set 5 (.int .i64 0)).set 6 (.slice a' n' c')).cell
      simp at B3
      refine bodyPost_ret (v := .agg #[.int .i64 2, .string t, .int .i64 p.kind, .int .i64 p.num, .string p.text, .int .i64 0, .slice a' n' c']) (by simp [results, Tryz.results237, go_sem, B3]) rfl ⟨_, rfl, ?_, ?_⟩
      · have hlt : w.heap.size + 1 < W.heap.size := B2.lt
        refine OwnL.base_le (base := W.heap.size) ?_ hg.size
        iterate 7 (refine OwnAL.setCell ?_ (show _ + 1 < _ from hlt) _)
        exact OwnL.base_le (OwnL.gr (w := w3) ho (fun _ _ h => h) (by repeat (with_reducible first | assumption | exact Gr.refl _ | apply Gr.alloc | apply Gr.drewN | apply Gr.drew | apply Gr.iter | (refine Gr.setCell ?_ (by simp) _) | (refine Gr.trans ?_ (by assumption))))) (Gr.size (w := W) (w' := _) (by repeat (with_reducible first | assumption | exact Gr.refl _ | apply Gr.alloc | apply Gr.drewN | apply Gr.drew | apply Gr.iter | (refine Gr.setCell ?_ (by simp) _) | (refine Gr.trans ?_ (by assumption)))))
      · exact (by repeat (with_reducible first | assumption | exact Gr.refl _ | apply Gr.alloc | apply Gr.drewN | apply Gr.drew | apply Gr.iter | (refine Gr.setCell ?_ (by simp) _) | (refine Gr.trans ?_ (by assumption)))))
   | (go_wp2
      have B3 := ((((((((B2.gr (w' := w2) (by repeat (with_reducible first | assumption | exact Gr.refl _ | apply Gr.alloc | apply Gr.drewN | apply Gr.drew | apply Gr.iter | (refine Gr.setCell ?_ (by simp) _) | (refine Gr.trans ?_ (by assumption))))).set 0 (.int .i64 2)).set 1 (.string t)).set 2 (.int .i64 p.kind)).set 3 (.int .i64 p.num)).set 4 (.string p.text)).set 5 (.int .i64 0)).set 6 (.slice a' n' c')).cell
      simp at B3
      refine bodyPost_ret (v := .agg #[.int .i64 2, .string t, .int .i64 p.kind, .int .i64 p.num, .string p.text, .int .i64 0, .slice a' n' c']) (by simp [results, Tryz.results237, go_sem, B3]) rfl ⟨_, rfl, ?_, ?_⟩
      · have hlt : w.heap.size + 1 < W.heap.size := B2.lt
        refine OwnL.base_le (base := W.heap.size) ?_ hg.size
        iterate 7 (refine OwnAL.setCell ?_ (show _ + 1 < _ from hlt) _)
        exact OwnL.base_le (OwnL.gr (w := w3) ho (fun _ _ h => h) (by repeat (with_reducible first | assumption | exact Gr.refl _ | apply Gr.alloc | apply Gr.drewN | apply Gr.drew | apply Gr.iter | (refine Gr.setCell ?_ (by simp) _) | (refine Gr.trans ?_ (by assumption))))) (Gr.size (w := W) (w' := _) (by repeat (with_reducible first | assumption | exact Gr.refl _ | apply Gr.alloc | apply Gr.drewN | apply Gr.drew | apply Gr.iter | (refine Gr.setCell ?_ (by simp) _) | (refine Gr.trans ?_ (by assumption)))))
      · exact (by repeat (with_reducible first | assumption | exact Gr.refl _ | apply Gr.alloc | apply Gr.drewN | apply Gr.drew | apply Gr.iter | (refine Gr.setCell ?_ (by simp) _) | (refine Gr.trans ?_ (by assumption)))))
end Ve
