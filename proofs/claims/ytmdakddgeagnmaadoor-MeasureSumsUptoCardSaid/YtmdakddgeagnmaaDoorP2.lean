/- Walks of the pieces' and the values' methods, the rest. -/
import Derived.Test.YtmdakddgeagnmaaDoorP1
import Derived.Shelf.RegionOpenPlain
set_option linter.all false
namespace Ve
open Go Go.RowKit Go.Proofs

set_option maxHeartbeats 400000 in
theorem embLen_any (sl : Value) (t : ByteArray) (x : Value) (w : World) (hs : ∃ a n c, sl = .slice a n c) (hx : ∃ T y, x = .iface T y) :
    Calls Tryd.prog 123 #[.agg #[sl, .string t, x]] w fun e w' => e = .returned (.int .i64 1) ∧ Gr w w' := by
  obtain ⟨a, n, c, rfl⟩ := hs
  obtain ⟨T, y, rfl⟩ := hx
  go_enter Tryd.func123, Tryd.ntmps123
  go_wp2
  go_ret
  exact ⟨rfl, (by repeat (with_reducible first | assumption | exact Gr.refl _ | apply Gr.alloc | apply Gr.drewN | apply Gr.drew | apply Gr.iter | (refine Gr.setCell ?_ (by simp) _) | (refine Gr.trans ?_ (by assumption))))⟩
set_option maxHeartbeats 400000 in
theorem retLen_any (sl : Value) (n : Int) (w : World) (hs : ∃ a n c, sl = .slice a n c) :
    Calls Tryd.prog 117 #[.agg #[sl, .int .i64 n]] w fun e w' => e = .returned (.int .i64 n) ∧ Gr w w' := by
  obtain ⟨a, n, c, rfl⟩ := hs
  go_enter Tryd.func117, Tryd.ntmps117
  go_wp2
  go_ret
  exact ⟨rfl, (by repeat (with_reducible first | assumption | exact Gr.refl _ | apply Gr.alloc | apply Gr.drewN | apply Gr.drew | apply Gr.iter | (refine Gr.setCell ?_ (by simp) _) | (refine Gr.trans ?_ (by assumption))))⟩
set_option maxHeartbeats 400000 in
theorem delLen_any (n : Int) (w : World) :
    Calls Tryd.prog 119 #[.agg #[.int .i64 n]] w fun e w' => e = .returned (.int .i64 n) ∧ Gr w w' := by
  go_enter Tryd.func119, Tryd.ntmps119
  go_wp2
  go_ret
  exact ⟨rfl, (by repeat (with_reducible first | assumption | exact Gr.refl _ | apply Gr.alloc | apply Gr.drewN | apply Gr.drew | apply Gr.iter | (refine Gr.setCell ?_ (by simp) _) | (refine Gr.trans ?_ (by assumption))))⟩
set_option maxHeartbeats 1000000 in
theorem retOp_any (l : List Attr) (sl : Value) (n : Int) (w : World) (hl : RdAttrs w sl l) :
    Calls Tryd.prog 118 #[.agg #[sl, .int .i64 n]] w fun e w' => ∃ v', e = .returned (.agg #[.int .i64 3, .string ⟨#[]⟩, .int .i64 0, .int .i64 0, .string ⟨#[]⟩, .int .i64 n, v']) ∧ OwnL AttrR 4 w.heap.size 112 w' v' l ∧ Gr w w' := by
  obtain ⟨a, k, cap, rfl, -, -, hb, hn⟩ := hl.sl
  go_enter Tryd.func118, Tryd.ntmps118
  go_wp2
  obtain ⟨W, hW, B1, B2, hg⟩ := blk2 w 87 #[.slice a k cap, .int .i64 n] 51 #[.int .i64 0, .string ⟨#[]⟩, .int .i64 0, .int .i64 0, .string ⟨#[]⟩, .int .i64 0, .slice none 0 0]
  have q0 := B1.cell 0
  have q1 := B1.cell 1
  simp at q0 q1
  rw [hW]
  have HW := Lib.hid hW; clear hW
  go_region_with (go_at_call 116; refine (attrs_any l _ _ (RdAttrs.gr hl (by repeat (with_reducible first | assumption | exact Gr.refl _ | apply Gr.alloc | apply Gr.drewN | apply Gr.drew | apply Gr.iter | (refine Gr.setCell ?_ (by simp) _) | (refine Gr.trans ?_ (by assumption)))))).mono ?_; rintro e w3 ⟨v', rfl, ho, hg3⟩; obtain ⟨a', n', c', rfl, -⟩ := ho.sl; have b3 := (B2.gr (w' := w3) (by repeat (with_reducible first | assumption | exact Gr.refl _ | apply Gr.alloc | apply Gr.drewN | apply Gr.drew | apply Gr.iter | (refine Gr.setCell ?_ (by simp) _) | (refine Gr.trans ?_ (by assumption))))).cell; have f3 := (B2.gr (w' := w3) (by repeat (with_reducible first | assumption | exact Gr.refl _ | apply Gr.alloc | apply Gr.drewN | apply Gr.drew | apply Gr.iter | (refine Gr.setCell ?_ (by simp) _) | (refine Gr.trans ?_ (by assumption))))).frozen; have b1 := (B1.gr (w' := w3) (by repeat (with_reducible first | assumption | exact Gr.refl _ | apply Gr.alloc | apply Gr.drewN | apply Gr.drew | apply Gr.iter | (refine Gr.setCell ?_ (by simp) _) | (refine Gr.trans ?_ (by assumption))))).cell)
  all_goals
    go_wp2
    have B3 := ((((((((B2.gr (w' := w3) (by repeat (with_reducible first | assumption | exact Gr.refl _ | apply Gr.alloc | apply Gr.drewN | apply Gr.drew | apply Gr.iter | (refine Gr.setCell ?_ (by simp) _) | (refine Gr.trans ?_ (by assumption))))).set 0 (.int .i64 3)).set 1 (.string ⟨#[]⟩)).set 2 (.int .i64 0)).set 3 (.int .i64 0)).set 4 (.string ⟨#[]⟩)).set 5 (.int .i64 n)).set 6 (.slice a' n' c')).cell
    simp at B3
    refine bodyPost_ret (v := .agg #[.int .i64 3, .string ⟨#[]⟩, .int .i64 0, .int .i64 0, .string ⟨#[]⟩, .int .i64 n, .slice a' n' c']) (by simp [results, Tryd.results118, go_sem, B3]) rfl ⟨_, rfl, ?_, ?_⟩
    · have hlt : w.heap.size + 1 < W.heap.size := B2.lt
      refine OwnL.base_le (base := W.heap.size) ?_ hg.size
      iterate 7 (refine OwnAL.setCell ?_ (show _ + 1 < _ from hlt) _)
      exact ho
    · exact (by repeat (with_reducible first | assumption | exact Gr.refl _ | apply Gr.alloc | apply Gr.drewN | apply Gr.drew | apply Gr.iter | (refine Gr.setCell ?_ (by simp) _) | (refine Gr.trans ?_ (by assumption))))
set_option maxHeartbeats 1000000 in
theorem delOp_any (n : Int) (w : World) :
    Calls Tryd.prog 120 #[.agg #[.int .i64 n]] w fun e w' => e = .returned (.agg #[.int .i64 4, .string ⟨#[]⟩, .int .i64 0, .int .i64 0, .string ⟨#[]⟩, .int .i64 n, .slice none 0 0]) ∧ Gr w w' := by
  go_enter Tryd.func120, Tryd.ntmps120
  go_wp2
  exact bodyPost_ret (v := .agg #[.int .i64 4, .string ⟨#[]⟩, .int .i64 0, .int .i64 0, .string ⟨#[]⟩, .int .i64 n, .slice none 0 0]) (by simp [results, Tryd.results120, go_sem]) rfl ⟨rfl, (by repeat (with_reducible first | assumption | exact Gr.refl _ | apply Gr.alloc | apply Gr.drewN | apply Gr.drew | apply Gr.iter | (refine Gr.setCell ?_ (by simp) _) | (refine Gr.trans ?_ (by assumption))))⟩
def plainV (p : Plain) : Value := .agg #[.int .i64 p.kind, .int .i64 p.num, .string p.text]
set_option maxHeartbeats 400000 in
theorem flagPlain_any (b : Bool) (w : World) :
    Calls Tryd.prog 126 #[.bool b] w fun e w' => e = .returned (plainV ⟨1, if b then 1 else 0, es⟩) ∧ Gr w w' := by
  cases b
  all_goals
    go_enter Tryd.func126, Tryd.ntmps126
    go_wp2
  · exact bodyPost_ret (v := plainV ⟨1, 0, es⟩) (by simp [results, Tryd.results126, go_sem, plainV, es]) rfl ⟨rfl, (by repeat (with_reducible first | assumption | exact Gr.refl _ | apply Gr.alloc | apply Gr.drewN | apply Gr.drew | apply Gr.iter | (refine Gr.setCell ?_ (by simp) _) | (refine Gr.trans ?_ (by assumption))))⟩
  · exact bodyPost_ret (v := plainV ⟨1, 1, es⟩) (by simp [results, Tryd.results126, go_sem, plainV, es]) rfl ⟨rfl, (by repeat (with_reducible first | assumption | exact Gr.refl _ | apply Gr.alloc | apply Gr.drewN | apply Gr.drew | apply Gr.iter | (refine Gr.setCell ?_ (by simp) _) | (refine Gr.trans ?_ (by assumption))))⟩
set_option maxHeartbeats 400000 in
theorem numberPlain_any (n : Int) (w : World) :
    Calls Tryd.prog 128 #[.int .i64 n] w fun e w' => e = .returned (plainV ⟨2, n, es⟩) ∧ Gr w w' := by
  go_enter Tryd.func128, Tryd.ntmps128
  go_wp2
  exact bodyPost_ret (v := plainV ⟨2, n, es⟩) (by simp [results, Tryd.results128, go_sem, plainV, es]) rfl ⟨rfl, (by repeat (with_reducible first | assumption | exact Gr.refl _ | apply Gr.alloc | apply Gr.drewN | apply Gr.drew | apply Gr.iter | (refine Gr.setCell ?_ (by simp) _) | (refine Gr.trans ?_ (by assumption))))⟩
set_option maxHeartbeats 400000 in
theorem textPlain_any (t : ByteArray) (w : World) :
    Calls Tryd.prog 130 #[.string t] w fun e w' => e = .returned (plainV ⟨3, 0, t⟩) ∧ Gr w w' := by
  go_enter Tryd.func130, Tryd.ntmps130
  go_wp2
  exact bodyPost_ret (v := plainV ⟨3, 0, t⟩) (by simp [results, Tryd.results130, go_sem, plainV, es]) rfl ⟨rfl, (by repeat (with_reducible first | assumption | exact Gr.refl _ | apply Gr.alloc | apply Gr.drewN | apply Gr.drew | apply Gr.iter | (refine Gr.setCell ?_ (by simp) _) | (refine Gr.trans ?_ (by assumption))))⟩
set_option maxHeartbeats 400000 in
theorem nullPlain_any (w : World) :
    Calls Tryd.prog 132 #[.agg #[]] w fun e w' => e = .returned (plainV ⟨0, 0, es⟩) ∧ Gr w w' := by
  go_enter Tryd.func132, Tryd.ntmps132
  go_wp2
  exact bodyPost_ret (v := plainV ⟨0, 0, es⟩) (by simp [results, Tryd.results132, go_sem, plainV, es]) rfl ⟨rfl, (by repeat (with_reducible first | assumption | exact Gr.refl _ | apply Gr.alloc | apply Gr.drewN | apply Gr.drew | apply Gr.iter | (refine Gr.setCell ?_ (by simp) _) | (refine Gr.trans ?_ (by assumption))))⟩
/-- The method Plain of a value. -/
theorem plain_meth (p : Plain) (hp : kindOk p = true) : ∃ T y f, valV p = .iface T y ∧ (∀ d w, (method (d + 1) T y "Plain").run Tryd.prog w = .ok (f, y) w) ∧ (∀ args w, (callFunc f args).run Tryd.prog w = .ok (.enter f args) w) ∧ (∀ w, Calls Tryd.prog f #[y] w fun e w' => e = .returned (plainV p) ∧ Gr w w') := by
  obtain ⟨k, n, t⟩ := p
  unfold kindOk at hp
  simp only at hp
  unfold valV
  by_cases h1 : k = 1
  · subst h1
    simp at hp
    obtain ⟨h, rfl⟩ := hp
    refine ⟨_, _, _, if_pos rfl, fun d w => meth_Flag_Plain d _ w, enters_of Tryd.func126 (by kernel_rfl) rfl, fun w => (flagPlain_any _ w).mono fun e w' h' => ?_⟩
    rcases h with rfl | rfl
    · exact h'
    · exact h'
  · by_cases h2 : k = 2
    · subst h2
      simp at hp
      subst hp
      exact ⟨_, _, _, rfl, fun d w => meth_Number_Plain d _ w, enters_of Tryd.func128 (by kernel_rfl) rfl, fun w => numberPlain_any _ w⟩
    · by_cases h3 : k = 3
      · subst h3
        simp at hp
        subst hp
        exact ⟨_, _, _, rfl, fun d w => meth_Text_Plain d _ w, enters_of Tryd.func130 (by kernel_rfl) rfl, fun w => textPlain_any _ w⟩
      · by_cases h0 : k = 0
        · subst h0
          simp at hp
          obtain ⟨rfl, rfl⟩ := hp
          exact ⟨_, _, _, rfl, fun d w => meth_Null_Plain d w, enters_of Tryd.func132 (by kernel_rfl) rfl, fun w => nullPlain_any w⟩
        · simp [h1, h2, h3, h0] at hp
end Ve
