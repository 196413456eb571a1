/- Walks of the pieces' and the values' methods. -/
import Derived.Test.YtmdakddgeagnmaaDoorG7
set_option linter.all false
namespace Ve
open Go Go.RowKit Go.Proofs

theorem meth_Insert_Len (d : Nat) (a b c : Value) (w : World) : (method (d + 1) 119 (.agg #[a, b, c]) "Len").run Tryd.prog w = .ok (121, .agg #[a, b, c]) w := by kernel_rfl
theorem meth_Insert_Op (d : Nat) (a b c : Value) (w : World) : (method (d + 1) 119 (.agg #[a, b, c]) "Op").run Tryd.prog w = .ok (122, .agg #[a, b, c]) w := by kernel_rfl
theorem meth_Embed_Len (d : Nat) (a b c : Value) (w : World) : (method (d + 1) 123 (.agg #[a, b, c]) "Len").run Tryd.prog w = .ok (123, .agg #[a, b, c]) w := by kernel_rfl
theorem meth_Embed_Op (d : Nat) (a b c : Value) (w : World) : (method (d + 1) 123 (.agg #[a, b, c]) "Op").run Tryd.prog w = .ok (124, .agg #[a, b, c]) w := by kernel_rfl
theorem meth_Retain_Len (d : Nat) (a b : Value) (w : World) : (method (d + 1) 87 (.agg #[a, b]) "Len").run Tryd.prog w = .ok (117, .agg #[a, b]) w := by kernel_rfl
theorem meth_Retain_Op (d : Nat) (a b : Value) (w : World) : (method (d + 1) 87 (.agg #[a, b]) "Op").run Tryd.prog w = .ok (118, .agg #[a, b]) w := by kernel_rfl
theorem meth_Delete_Len (d : Nat) (a : Value) (w : World) : (method (d + 1) 90 (.agg #[a]) "Len").run Tryd.prog w = .ok (119, .agg #[a]) w := by kernel_rfl
theorem meth_Delete_Op (d : Nat) (a : Value) (w : World) : (method (d + 1) 90 (.agg #[a]) "Op").run Tryd.prog w = .ok (120, .agg #[a]) w := by kernel_rfl
theorem meth_Flag_Plain (d : Nat) (a : Bool) (w : World) : (method (d + 1) 151 (.bool a) "Plain").run Tryd.prog w = .ok (126, (.bool a)) w := by kernel_rfl
theorem meth_Number_Plain (d : Nat) (a : Int) (w : World) : (method (d + 1) 152 (.int .i64 a) "Plain").run Tryd.prog w = .ok (128, (.int .i64 a)) w := by kernel_rfl
theorem meth_Text_Plain (d : Nat) (a : ByteArray) (w : World) : (method (d + 1) 153 (.string a) "Plain").run Tryd.prog w = .ok (130, (.string a)) w := by kernel_rfl
theorem meth_Null_Plain (d : Nat)  (w : World) : (method (d + 1) 155 (.agg #[]) "Plain").run Tryd.prog w = .ok (132, (.agg #[])) w := by kernel_rfl
attribute [go_sem] meth_Insert_Len meth_Insert_Op meth_Embed_Len meth_Embed_Op meth_Retain_Len meth_Retain_Op meth_Delete_Len meth_Delete_Op meth_Flag_Plain meth_Number_Plain meth_Text_Plain meth_Null_Plain
set_option maxHeartbeats 400000 in
theorem attrs_any (l : List Attr) (v : Value) (w : World) (hl : RdAttrs w v l) :
    Calls Tryd.prog 116 #[.agg #[v]] w fun e w' => ∃ v', e = .returned v' ∧ OwnL AttrR 4 w.heap.size 112 w' v' l ∧ Gr w w' := by
  obtain ⟨a, n, cap, rfl, -, -, hb, hn⟩ := hl.sl
  obtain ⟨v', w', hrun, hown, hg, -⟩ := app_attr (w.alloc (.cells #[.slice a n cap] 85)) w.heap.size 49 (OwnL.nil _ AttrR 4 w.heap.size 112) (RdAttrs.gr hl (by repeat (with_reducible first | assumption | exact Gr.refl _ | apply Gr.alloc | apply Gr.drewN | apply Gr.drew | apply Gr.iter | (refine Gr.setCell ?_ (by simp) _) | (refine Gr.trans ?_ (by assumption))))) (by simp; rw [hn.out]; exact hb) (by simp)
  have HH := Lib.hid (And.intro hrun (And.intro hown hg)); clear hrun hown hg
  go_enter Tryd.func116, Tryd.ntmps116
  go_wp2_with (at_builtin; refine wpList_run rfl _ _ _ rfl rfl rfl HH.out.1 ?_)
  go_ret
  exact ⟨_, rfl, HH.out.2.1, ((Gr.refl w).alloc _).grown HH.out.2.2 (by simp [Value.ownBlock])⟩
set_option maxHeartbeats 400000 in
theorem insLen_any (sl : Value) (t : ByteArray) (n : Int) (w : World) (hs : ∃ a n c, sl = .slice a n c) :
    Calls Tryd.prog 121 #[.agg #[sl, .string t, .int .i64 n]] w fun e w' => e = .returned (.int .i64 n) ∧ Gr w w' := by
  obtain ⟨a, n, c, rfl⟩ := hs
  go_enter Tryd.func121, Tryd.ntmps121
  go_wp2
  go_ret
  exact ⟨rfl, (by repeat (with_reducible first | assumption | exact Gr.refl _ | apply Gr.alloc | apply Gr.drewN | apply Gr.drew | apply Gr.iter | (refine Gr.setCell ?_ (by simp) _) | (refine Gr.trans ?_ (by assumption))))⟩
set_option maxHeartbeats 1000000 in
theorem insOp_any (l : List Attr) (sl : Value) (t : ByteArray) (n : Int) (w : World) (hl : RdAttrs w sl l) :
    Calls Tryd.prog 122 #[.agg #[sl, .string t, .int .i64 n]] w fun e w' => ∃ v', e = .returned (.agg #[.int .i64 1, .string t, .int .i64 0, .int .i64 0, .string ⟨#[]⟩, .int .i64 0, v']) ∧ OwnL AttrR 4 w.heap.size 112 w' v' l ∧ Gr w w' := by
  obtain ⟨a, k, cap, rfl, -, -, hb, hn⟩ := hl.sl
  go_enter Tryd.func122, Tryd.ntmps122
  go_wp2
  obtain ⟨W, hW, B1, B2, hg⟩ := blk2 w 119 #[.slice a k cap, .string t, .int .i64 n] 51 #[.int .i64 0, .string ⟨#[]⟩, .int .i64 0, .int .i64 0, .string ⟨#[]⟩, .int .i64 0, .slice none 0 0]
  have q0 := B1.cell 0
  have q1 := B1.cell 1
  simp at q0 q1
  rw [hW]
  have HW := Lib.hid hW; clear hW
  have q0d : ∀ n, (W.drewN n).cell? ⟨w.heap.size, 0, none⟩ = some (.slice a k cap) := fun n => q0
  go_region_with (go_at_call 116; refine (attrs_any l _ _ (RdAttrs.gr hl (by repeat (with_reducible first | assumption | exact Gr.refl _ | apply Gr.alloc | apply Gr.drewN | apply Gr.drew | apply Gr.iter | (refine Gr.setCell ?_ (by simp) _) | (refine Gr.trans ?_ (by assumption)))))).mono ?_; rintro e w3 ⟨v', rfl, ho, hg3⟩; obtain ⟨a', n', c', rfl, -⟩ := ho.sl; have b3 := (B2.gr (w' := w3) (by repeat (with_reducible first | assumption | exact Gr.refl _ | apply Gr.alloc | apply Gr.drewN | apply Gr.drew | apply Gr.iter | (refine Gr.setCell ?_ (by simp) _) | (refine Gr.trans ?_ (by assumption))))).cell; have f3 := (B2.gr (w' := w3) (by repeat (with_reducible first | assumption | exact Gr.refl _ | apply Gr.alloc | apply Gr.drewN | apply Gr.drew | apply Gr.iter | (refine Gr.setCell ?_ (by simp) _) | (refine Gr.trans ?_ (by assumption))))).frozen; have b1 := (B1.gr (w' := w3) (by repeat (with_reducible first | assumption | exact Gr.refl _ | apply Gr.alloc | apply Gr.drewN | apply Gr.drew | apply Gr.iter | (refine Gr.setCell ?_ (by simp) _) | (refine Gr.trans ?_ (by assumption))))).cell)
  all_goals
    go_wp2
    have B3 := ((((((((B2.gr (w' := w3) (by repeat (with_reducible first | assumption | exact Gr.refl _ | apply Gr.alloc | apply Gr.drewN | apply Gr.drew | apply Gr.iter | (refine Gr.setCell ?_ (by simp) _) | (refine Gr.trans ?_ (by assumption))))).set 0 (.int .i64 1)).set 1 (.string t)).set 2 (.int .i64 0)).set 3 (.int .i64 0)).set 4 (.string ⟨#[]⟩)).set 5 (.int .i64 0)).set 6 (.slice a' n' c')).cell
    simp at B3
    refine bodyPost_ret (v := .agg #[.int .i64 1, .string t, .int .i64 0, .int .i64 0, .string ⟨#[]⟩, .int .i64 0, .slice a' n' c']) (by simp [results, Tryd.results122, go_sem, B3]) rfl ⟨_, rfl, ?_, ?_⟩
    · have hlt : w.heap.size + 1 < W.heap.size := B2.lt
      refine OwnL.base_le (base := W.heap.size) ?_ hg.size
      iterate 7 (refine OwnAL.setCell ?_ (show _ + 1 < _ from hlt) _)
      exact ho
    · exact (by repeat (with_reducible first | assumption | exact Gr.refl _ | apply Gr.alloc | apply Gr.drewN | apply Gr.drew | apply Gr.iter | (refine Gr.setCell ?_ (by simp) _) | (refine Gr.trans ?_ (by assumption))))
end Ve
