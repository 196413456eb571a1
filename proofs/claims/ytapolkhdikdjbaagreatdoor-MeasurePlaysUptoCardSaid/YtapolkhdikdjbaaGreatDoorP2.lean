/- Walks of the pieces' and the values' methods. -/
import Derived.Test.YtapolkhdikdjbaaGreatDoorG7
import Derived.Shelf.RegionOpenPlain
set_option linter.all false
namespace Ve
open Go Go.RowKit Go.Proofs

theorem meth_Insert_Len (d : Nat) (a b c : Value) (w : World) : (method (d + 1) 160 (.agg #[a, b, c]) "Len").run Tryz.prog w = .ok (234, .agg #[a, b, c]) w := by kernel_rfl
theorem meth_Insert_Op (d : Nat) (a b c : Value) (w : World) : (method (d + 1) 160 (.agg #[a, b, c]) "Op").run Tryz.prog w = .ok (235, .agg #[a, b, c]) w := by kernel_rfl
theorem meth_Embed_Len (d : Nat) (a b c : Value) (w : World) : (method (d + 1) 164 (.agg #[a, b, c]) "Len").run Tryz.prog w = .ok (236, .agg #[a, b, c]) w := by kernel_rfl
theorem meth_Embed_Op (d : Nat) (a b c : Value) (w : World) : (method (d + 1) 164 (.agg #[a, b, c]) "Op").run Tryz.prog w = .ok (237, .agg #[a, b, c]) w := by kernel_rfl
theorem meth_Retain_Len (d : Nat) (a b : Value) (w : World) : (method (d + 1) 128 (.agg #[a, b]) "Len").run Tryz.prog w = .ok (231, .agg #[a, b]) w := by kernel_rfl
theorem meth_Retain_Op (d : Nat) (a b : Value) (w : World) : (method (d + 1) 128 (.agg #[a, b]) "Op").run Tryz.prog w = .ok (232, .agg #[a, b]) w := by kernel_rfl
theorem meth_Delete_Len (d : Nat) (a : Value) (w : World) : (method (d + 1) 152 (.agg #[a]) "Len").run Tryz.prog w = .ok (233, .agg #[a]) w := by kernel_rfl
theorem meth_Delete_Op (d : Nat) (a : Value) (w : World) : (method (d + 1) 152 (.agg #[a]) "Op").run Tryz.prog w = .ok (182, .agg #[a]) w := by kernel_rfl
theorem meth_Flag_Plain (d : Nat) (a : Bool) (w : World) : (method (d + 1) 253 (.bool a) "Plain").run Tryz.prog w = .ok (239, (.bool a)) w := by kernel_rfl
theorem meth_Number_Plain (d : Nat) (a : Int) (w : World) : (method (d + 1) 254 (.int .i64 a) "Plain").run Tryz.prog w = .ok (241, (.int .i64 a)) w := by kernel_rfl
theorem meth_Text_Plain (d : Nat) (a : ByteArray) (w : World) : (method (d + 1) 255 (.string a) "Plain").run Tryz.prog w = .ok (243, (.string a)) w := by kernel_rfl
theorem meth_Null_Plain (d : Nat)  (w : World) : (method (d + 1) 257 (.agg #[]) "Plain").run Tryz.prog w = .ok (245, (.agg #[])) w := by kernel_rfl
attribute [go_sem] meth_Insert_Len meth_Insert_Op meth_Embed_Len meth_Embed_Op meth_Retain_Len meth_Retain_Op meth_Delete_Len meth_Delete_Op meth_Flag_Plain meth_Number_Plain meth_Text_Plain meth_Null_Plain
set_option maxHeartbeats 400000 in
theorem attrs_any (l : List Attr) (v : Value) (w : World) (hl : RdAttrs w v l) :
    Calls Tryz.prog 172 #[.agg #[v]] w fun e w' => ∃ v', e = .returned v' ∧ OwnL AttrR 4 w.heap.size 83 w' v' l ∧ Gr w w' := by
  obtain ⟨a, n, cap, rfl, -, -, hb, hn⟩ := hl.sl
  obtain ⟨v', w', hrun, hown, hg, -⟩ := app_attr (w.alloc (.cells #[.slice a n cap] 126)) w.heap.size 44 (OwnL.nil _ AttrR 4 w.heap.size 83) (RdAttrs.gr hl (by repeat (with_reducible first | assumption | exact Gr.refl _ | apply Gr.alloc | apply Gr.drewN | apply Gr.drew | apply Gr.iter | (refine Gr.setCell ?_ (by simp) _) | (refine Gr.trans ?_ (by assumption))))) (by simp; rw [hn.out]; exact hb) (by simp)
  have HH := Lib.hid (And.intro hrun (And.intro hown hg)); clear hrun hown hg
  go_enter Tryz.func172, Tryz.ntmps172
  go_wp2_with (at_builtin; refine wpList_run rfl _ _ _ rfl rfl rfl HH.out.1 ?_)
  go_ret
  exact ⟨_, rfl, HH.out.2.1, ((Gr.refl w).alloc _).grown HH.out.2.2 (by simp [Value.ownBlock])⟩
set_option maxHeartbeats 400000 in
theorem insLen_any (sl : Value) (t : ByteArray) (n : Int) (w : World) (hs : ∃ a n c, sl = .slice a n c) :
    Calls Tryz.prog 234 #[.agg #[sl, .string t, .int .i64 n]] w fun e w' => e = .returned (.int .i64 n) ∧ Gr w w' := by
  obtain ⟨a, n, c, rfl⟩ := hs
  go_enter Tryz.func234, Tryz.ntmps234
  go_wp2
  go_ret
  exact ⟨rfl, (by repeat (with_reducible first | assumption | exact Gr.refl _ | apply Gr.alloc | apply Gr.drewN | apply Gr.drew | apply Gr.iter | (refine Gr.setCell ?_ (by simp) _) | (refine Gr.trans ?_ (by assumption))))⟩
set_option maxHeartbeats 1000000 in
theorem insOp_any (l : List Attr) (sl : Value) (t : ByteArray) (n : Int) (w : World) (hl : RdAttrs w sl l) :
    Calls Tryz.prog 235 #[.agg #[sl, .string t, .int .i64 n]] w fun e w' => ∃ v', e = .returned (.agg #[.int .i64 1, .string t, .int .i64 0, .int .i64 0, .string ⟨#[]⟩, .int .i64 0, v']) ∧ OwnL AttrR 4 w.heap.size 83 w' v' l ∧ Gr w w' := by
  obtain ⟨a, k, cap, rfl, -, -, hb, hn⟩ := hl.sl
  go_enter Tryz.func235, Tryz.ntmps235
  go_wp2
  obtain ⟨W, hW, B1, B2, hg⟩ := blk2 w 160 #[.slice a k cap, .string t, .int .i64 n] 46 #[.int .i64 0, .string ⟨#[]⟩, .int .i64 0, .int .i64 0, .string ⟨#[]⟩, .int .i64 0, .slice none 0 0]
  have q0 := B1.cell 0
  have q1 := B1.cell 1
  simp at q0 q1
  rw [hW]
  have HW := Lib.hid hW; clear hW
  have q0d : ∀ n, (W.drewN n).cell? ⟨w.heap.size, 0, none⟩ = some (.slice a k cap) := fun n => q0
  go_region_with (go_at_call 172; refine (attrs_any l _ _ (RdAttrs.gr hl (by repeat (with_reducible first | assumption | exact Gr.refl _ | apply Gr.alloc | apply Gr.drewN | apply Gr.drew | apply Gr.iter | (refine Gr.setCell ?_ (by simp) _) | (refine Gr.trans ?_ (by assumption)))))).mono ?_; rintro e w3 ⟨v', rfl, ho, hg3⟩; obtain ⟨a', n', c', rfl, -⟩ := ho.sl; have b3 := (B2.gr (w' := w3) (by repeat (with_reducible first | assumption | exact Gr.refl _ | apply Gr.alloc | apply Gr.drewN | apply Gr.drew | apply Gr.iter | (refine Gr.setCell ?_ (by simp) _) | (refine Gr.trans ?_ (by assumption))))).cell; have f3 := (B2.gr (w' := w3) (by repeat (with_reducible first | assumption | exact Gr.refl _ | apply Gr.alloc | apply Gr.drewN | apply Gr.drew | apply Gr.iter | (refine Gr.setCell ?_ (by simp) _) | (refine Gr.trans ?_ (by assumption))))).frozen; have b1 := (B1.gr (w' := w3) (by repeat (with_reducible first | assumption | exact Gr.refl _ | apply Gr.alloc | apply Gr.drewN | apply Gr.drew | apply Gr.iter | (refine Gr.setCell ?_ (by simp) _) | (refine Gr.trans ?_ (by assumption))))).cell)
  all_goals
    go_wp2
    have B3 := ((((((((B2.gr (w' := w3) (by repeat (with_reducible first | assumption | exact Gr.refl _ | apply Gr.alloc | apply Gr.drewN | apply Gr.drew | apply Gr.iter | (refine Gr.setCell ?_ (by simp) _) | (refine Gr.trans ?_ (by assumption))))).set 0 (.int .i64 1)).set 1 (.string t)).set 2 (.int .i64 0)).set 3 (.int .i64 0)).set 4 (.string ⟨#[]⟩)).set 5 (.int .i64 0)).set 6 (.slice a' n' c')).cell
    simp at B3
    refine bodyPost_ret (v := .agg #[.int .i64 1, .string t, .int .i64 0, .int .i64 0, .string ⟨#[]⟩, .int .i64 0, .slice a' n' c']) (by simp [results, Tryz.results235, go_sem, B3]) rfl ⟨_, rfl, ?_, ?_⟩
    · have hlt : w.heap.size + 1 < W.heap.size := B2.lt
      refine OwnL.base_le (base := W.heap.size) ?_ hg.size
      iterate 7 (refine OwnAL.setCell ?_ (show _ + 1 < _ from hlt) _)
      exact ho
    · exact (by repeat (with_reducible first | assumption | exact Gr.refl _ | apply Gr.alloc | apply Gr.drewN | apply Gr.drew | apply Gr.iter | (refine Gr.setCell ?_ (by simp) _) | (refine Gr.trans ?_ (by assumption))))
end Ve
/- Walks of the pieces' and the values' methods, the rest. -/
namespace Ve
open Go Go.RowKit Go.Proofs

set_option maxHeartbeats 400000 in
theorem embLen_any (sl : Value) (t : ByteArray) (x : Value) (w : World) (hs : ∃ a n c, sl = .slice a n c) (hx : ∃ T y, x = .iface T y) :
    Calls Tryz.prog 236 #[.agg #[sl, .string t, x]] w fun e w' => e = .returned (.int .i64 1) ∧ Gr w w' := by
  obtain ⟨a, n, c, rfl⟩ := hs
  obtain ⟨T, y, rfl⟩ := hx
  go_enter Tryz.func236, Tryz.ntmps236
  go_wp2
  go_ret
  exact ⟨rfl, (by repeat (with_reducible first | assumption | exact Gr.refl _ | apply Gr.alloc | apply Gr.drewN | apply Gr.drew | apply Gr.iter | (refine Gr.setCell ?_ (by simp) _) | (refine Gr.trans ?_ (by assumption))))⟩
set_option maxHeartbeats 400000 in
theorem retLen_any (sl : Value) (n : Int) (w : World) (hs : ∃ a n c, sl = .slice a n c) :
    Calls Tryz.prog 231 #[.agg #[sl, .int .i64 n]] w fun e w' => e = .returned (.int .i64 n) ∧ Gr w w' := by
  obtain ⟨a, n, c, rfl⟩ := hs
  go_enter Tryz.func231, Tryz.ntmps231
  go_wp2
  go_ret
  exact ⟨rfl, (by repeat (with_reducible first | assumption | exact Gr.refl _ | apply Gr.alloc | apply Gr.drewN | apply Gr.drew | apply Gr.iter | (refine Gr.setCell ?_ (by simp) _) | (refine Gr.trans ?_ (by assumption))))⟩
set_option maxHeartbeats 400000 in
theorem delLen_any (n : Int) (w : World) :
    Calls Tryz.prog 233 #[.agg #[.int .i64 n]] w fun e w' => e = .returned (.int .i64 n) ∧ Gr w w' := by
  go_enter Tryz.func233, Tryz.ntmps233
  go_wp2
  go_ret
  exact ⟨rfl, (by repeat (with_reducible first | assumption | exact Gr.refl _ | apply Gr.alloc | apply Gr.drewN | apply Gr.drew | apply Gr.iter | (refine Gr.setCell ?_ (by simp) _) | (refine Gr.trans ?_ (by assumption))))⟩
set_option maxHeartbeats 1000000 in
theorem retOp_any (l : List Attr) (sl : Value) (n : Int) (w : World) (hl : RdAttrs w sl l) :
    Calls Tryz.prog 232 #[.agg #[sl, .int .i64 n]] w fun e w' => ∃ v', e = .returned (.agg #[.int .i64 3, .string ⟨#[]⟩, .int .i64 0, .int .i64 0, .string ⟨#[]⟩, .int .i64 n, v']) ∧ OwnL AttrR 4 w.heap.size 83 w' v' l ∧ Gr w w' := by
  obtain ⟨a, k, cap, rfl, -, -, hb, hn⟩ := hl.sl
  go_enter Tryz.func232, Tryz.ntmps232
  go_wp2
  obtain ⟨W, hW, B1, B2, hg⟩ := blk2 w 128 #[.slice a k cap, .int .i64 n] 46 #[.int .i64 0, .string ⟨#[]⟩, .int .i64 0, .int .i64 0, .string ⟨#[]⟩, .int .i64 0, .slice none 0 0]
  have q0 := B1.cell 0
  have q1 := B1.cell 1
  simp at q0 q1
  rw [hW]
  have HW := Lib.hid hW; clear hW
  go_region_with (go_at_call 172; refine (attrs_any l _ _ (RdAttrs.gr hl (by repeat (with_reducible first | assumption | exact Gr.refl _ | apply Gr.alloc | apply Gr.drewN | apply Gr.drew | apply Gr.iter | (refine Gr.setCell ?_ (by simp) _) | (refine Gr.trans ?_ (by assumption)))))).mono ?_; rintro e w3 ⟨v', rfl, ho, hg3⟩; obtain ⟨a', n', c', rfl, -⟩ := ho.sl; have b3 := (B2.gr (w' := w3) (by repeat (with_reducible first | assumption | exact Gr.refl _ | apply Gr.alloc | apply Gr.drewN | apply Gr.drew | apply Gr.iter | (refine Gr.setCell ?_ (by simp) _) | (refine Gr.trans ?_ (by assumption))))).cell; have f3 := (B2.gr (w' := w3) (by repeat (with_reducible first | assumption | exact Gr.refl _ | apply Gr.alloc | apply Gr.drewN | apply Gr.drew | apply Gr.iter | (refine Gr.setCell ?_ (by simp) _) | (refine Gr.trans ?_ (by assumption))))).frozen; have b1 := (B1.gr (w' := w3) (by repeat (with_reducible first | assumption | exact Gr.refl _ | apply Gr.alloc | apply Gr.drewN | apply Gr.drew | apply Gr.iter | (refine Gr.setCell ?_ (by simp) _) | (refine Gr.trans ?_ (by assumption))))).cell)
  all_goals
    go_wp2
    have B3 := ((((((((B2.gr (w' := w3) (by repeat (with_reducible first | assumption | exact Gr.refl _ | apply Gr.alloc | apply Gr.drewN | apply Gr.drew | apply Gr.iter | (refine Gr.setCell ?_ (by simp) _) | (refine Gr.trans ?_ (by assumption))))).set 0 (.int .i64 3)).set 1 (.string ⟨#[]⟩)).set 2 (.int .i64 0)).set 3 (.int .i64 0)).set 4 (.string ⟨#[]⟩)).set 5 (.int .i64 n)).set 6 (.slice a' n' c')).cell
    simp at B3
    refine bodyPost_ret (v := .agg #[.int .i64 3, .string ⟨#[]⟩, .int .i64 0, .int .i64 0, .string ⟨#[]⟩, .int .i64 n, .slice a' n' c']) (by simp [results, Tryz.results232, go_sem, B3]) rfl ⟨_, rfl, ?_, ?_⟩
    · have hlt : w.heap.size + 1 < W.heap.size := B2.lt
      refine OwnL.base_le (base := W.heap.size) ?_ hg.size
      iterate 7 (refine OwnAL.setCell ?_ (show _ + 1 < _ from hlt) _)
      exact ho
    · exact (by repeat (with_reducible first | assumption | exact Gr.refl _ | apply Gr.alloc | apply Gr.drewN | apply Gr.drew | apply Gr.iter | (refine Gr.setCell ?_ (by simp) _) | (refine Gr.trans ?_ (by assumption))))
set_option maxHeartbeats 1000000 in
theorem delOp_any (n : Int) (w : World) :
    Calls Tryz.prog 182 #[.agg #[.int .i64 n]] w fun e w' => e = .returned (.agg #[.int .i64 4, .string ⟨#[]⟩, .int .i64 0, .int .i64 0, .string ⟨#[]⟩, .int .i64 n, .slice none 0 0]) ∧ Gr w w' := by
  go_enter Tryz.func182, Tryz.ntmps182
  go_wp2
  exact bodyPost_ret (v := .agg #[.int .i64 4, .string ⟨#[]⟩, .int .i64 0, .int .i64 0, .string ⟨#[]⟩, .int .i64 n, .slice none 0 0]) (by simp [results, Tryz.results182, go_sem]) rfl ⟨rfl, (by repeat (with_reducible first | assumption | exact Gr.refl _ | apply Gr.alloc | apply Gr.drewN | apply Gr.drew | apply Gr.iter | (refine Gr.setCell ?_ (by simp) _) | (refine Gr.trans ?_ (by assumption))))⟩
def plainV (p : Plain) : Value := .agg #[.int .i64 p.kind, .int .i64 p.num, .string p.text]
set_option maxHeartbeats 400000 in
theorem flagPlain_any (b : Bool) (w : World) :
    Calls Tryz.prog 239 #[.bool b] w fun e w' => e = .returned (plainV ⟨1, if b then 1 else 0, es⟩) ∧ Gr w w' := by
  cases b
  all_goals
    go_enter Tryz.func239, Tryz.ntmps239
    go_wp2
  · exact bodyPost_ret (v := plainV ⟨1, 0, es⟩) (by simp [results, Tryz.results239, go_sem, plainV, es]) rfl ⟨rfl, (by repeat (with_reducible first | assumption | exact Gr.refl _ | apply Gr.alloc | apply Gr.drewN | apply Gr.drew | apply Gr.iter | (refine Gr.setCell ?_ (by simp) _) | (refine Gr.trans ?_ (by assumption))))⟩
  · exact bodyPost_ret (v := plainV ⟨1, 1, es⟩) (by simp [results, Tryz.results239, go_sem, plainV, es]) rfl ⟨rfl, (by repeat (with_reducible first | assumption | exact Gr.refl _ | apply Gr.alloc | apply Gr.drewN | apply Gr.drew | apply Gr.iter | (refine Gr.setCell ?_ (by simp) _) | (refine Gr.trans ?_ (by assumption))))⟩
set_option maxHeartbeats 400000 in
theorem numberPlain_any (n : Int) (w : World) :
    Calls Tryz.prog 241 #[.int .i64 n] w fun e w' => e = .returned (plainV ⟨2, n, es⟩) ∧ Gr w w' := by
  go_enter Tryz.func241, Tryz.ntmps241
  go_wp2
  exact bodyPost_ret (v := plainV ⟨2, n, es⟩) (by simp [results, Tryz.results241, go_sem, plainV, es]) rfl ⟨rfl, (by repeat (with_reducible first | assumption | exact Gr.refl _ | apply Gr.alloc | apply Gr.drewN | apply Gr.drew | apply Gr.iter | (refine Gr.setCell ?_ (by simp) _) | (refine Gr.trans ?_ (by assumption))))⟩
set_option maxHeartbeats 400000 in
theorem textPlain_any (t : ByteArray) (w : World) :
    Calls Tryz.prog 243 #[.string t] w fun e w' => e = .returned (plainV ⟨3, 0, t⟩) ∧ Gr w w' := by
  go_enter Tryz.func243, Tryz.ntmps243
  go_wp2
  exact bodyPost_ret (v := plainV ⟨3, 0, t⟩) (by simp [results, Tryz.results243, go_sem, plainV, es]) rfl ⟨rfl, (by repeat (with_reducible first | assumption | exact Gr.refl _ | apply Gr.alloc | apply Gr.drewN | apply Gr.drew | apply Gr.iter | (refine Gr.setCell ?_ (by simp) _) | (refine Gr.trans ?_ (by assumption))))⟩
set_option maxHeartbeats 400000 in
theorem nullPlain_any (w : World) :
    Calls Tryz.prog 245 #[.agg #[]] w fun e w' => e = .returned (plainV ⟨0, 0, es⟩) ∧ Gr w w' := by
  go_enter Tryz.func245, Tryz.ntmps245
  go_wp2
  exact bodyPost_ret (v := plainV ⟨0, 0, es⟩) (by simp [results, Tryz.results245, go_sem, plainV, es]) rfl ⟨rfl, (by repeat (with_reducible first | assumption | exact Gr.refl _ | apply Gr.alloc | apply Gr.drewN | apply Gr.drew | apply Gr.iter | (refine Gr.setCell ?_ (by simp) _) | (refine Gr.trans ?_ (by assumption))))⟩
/-- The method Plain of a value. -/
theorem plain_meth (p : Plain) (hp : kindOk p = true) : ∃ T y f, valV p = .iface T y ∧ (∀ d w, (method (d + 1) T y "Plain").run Tryz.prog w = .ok (f, y) w) ∧ (∀ args w, (callFunc f args).run Tryz.prog w = .ok (.enter f args) w) ∧ (∀ w, Calls Tryz.prog f #[y] w fun e w' => e = .returned (plainV p) ∧ Gr w w') := by
  obtain ⟨k, n, t⟩ := p
  unfold kindOk at hp
  simp only at hp
  unfold valV
  by_cases h1 : k = 1
  · subst h1
    simp at hp
    obtain ⟨h, rfl⟩ := hp
    refine ⟨_, _, _, if_pos rfl, fun d w => meth_Flag_Plain d _ w, enters_of Tryz.func239 (by kernel_rfl) rfl, fun w => (flagPlain_any _ w).mono fun e w' h' => ?_⟩
    rcases h with rfl | rfl
    · exact h'
    · exact h'
  · by_cases h2 : k = 2
    · subst h2
      simp at hp
      subst hp
      exact ⟨_, _, _, rfl, fun d w => meth_Number_Plain d _ w, enters_of Tryz.func241 (by kernel_rfl) rfl, fun w => numberPlain_any _ w⟩
    · by_cases h3 : k = 3
      · subst h3
        simp at hp
        subst hp
        exact ⟨_, _, _, rfl, fun d w => meth_Text_Plain d _ w, enters_of Tryz.func243 (by kernel_rfl) rfl, fun w => textPlain_any _ w⟩
      · by_cases h0 : k = 0
        · subst h0
          simp at hp
          obtain ⟨rfl, rfl⟩ := hp
          exact ⟨_, _, _, rfl, fun d w => meth_Null_Plain d w, enters_of Tryz.func245 (by kernel_rfl) rfl, fun w => nullPlain_any w⟩
        · simp [h1, h2, h3, h0] at hp
end Ve
