import Derived.Test.YtnlpmajiccliiaaGreatDoorG7
import Derived.Shelf.RegionOpenPlain
set_option linter.all false
/- Walks of the pieces' and the values' methods. -/
namespace Ve
open Go Go.RowKit Go.Proofs

theorem meth_Insert_Len (d : Nat) (a b c : Value) (w : World) : (method (d + 1) 190 (.agg #[a, b, c]) "Len").run Tryz.prog w = .ok (227, .agg #[a, b, c]) w := by kernel_rfl
theorem meth_Insert_Op (d : Nat) (a b c : Value) (w : World) : (method (d + 1) 190 (.agg #[a, b, c]) "Op").run Tryz.prog w = .ok (228, .agg #[a, b, c]) w := by kernel_rfl
theorem meth_Embed_Len (d : Nat) (a b c : Value) (w : World) : (method (d + 1) 194 (.agg #[a, b, c]) "Len").run Tryz.prog w = .ok (229, .agg #[a, b, c]) w := by kernel_rfl
theorem meth_Embed_Op (d : Nat) (a b c : Value) (w : World) : (method (d + 1) 194 (.agg #[a, b, c]) "Op").run Tryz.prog w = .ok (230, .agg #[a, b, c]) w := by kernel_rfl
theorem meth_Retain_Len (d : Nat) (a b : Value) (w : World) : (method (d + 1) 113 (.agg #[a, b]) "Len").run Tryz.prog w = .ok (224, .agg #[a, b]) w := by kernel_rfl
theorem meth_Retain_Op (d : Nat) (a b : Value) (w : World) : (method (d + 1) 113 (.agg #[a, b]) "Op").run Tryz.prog w = .ok (225, .agg #[a, b]) w := by kernel_rfl
theorem meth_Delete_Len (d : Nat) (a : Value) (w : World) : (method (d + 1) 118 (.agg #[a]) "Len").run Tryz.prog w = .ok (226, .agg #[a]) w := by kernel_rfl
theorem meth_Delete_Op (d : Nat) (a : Value) (w : World) : (method (d + 1) 118 (.agg #[a]) "Op").run Tryz.prog w = .ok (147, .agg #[a]) w := by kernel_rfl
theorem meth_Flag_Plain (d : Nat) (a : Bool) (w : World) : (method (d + 1) 239 (.bool a) "Plain").run Tryz.prog w = .ok (232, (.bool a)) w := by kernel_rfl
theorem meth_Number_Plain (d : Nat) (a : Int) (w : World) : (method (d + 1) 240 (.int .i64 a) "Plain").run Tryz.prog w = .ok (234, (.int .i64 a)) w := by kernel_rfl
theorem meth_Text_Plain (d : Nat) (a : ByteArray) (w : World) : (method (d + 1) 241 (.string a) "Plain").run Tryz.prog w = .ok (236, (.string a)) w := by kernel_rfl
theorem meth_Null_Plain (d : Nat)  (w : World) : (method (d + 1) 243 (.agg #[]) "Plain").run Tryz.prog w = .ok (238, (.agg #[])) w := by kernel_rfl
attribute [go_sem] meth_Insert_Len meth_Insert_Op meth_Embed_Len meth_Embed_Op meth_Retain_Len meth_Retain_Op meth_Delete_Len meth_Delete_Op meth_Flag_Plain meth_Number_Plain meth_Text_Plain meth_Null_Plain
set_option maxHeartbeats 400000 in
theorem attrs_any (l : List Attr) (v : Value) (w : World) (hl : RdAttrs w v l) :
    Calls Tryz.prog 196 #[.agg #[v]] w fun e w' => ∃ v', e = .returned v' ∧ OwnL AttrR 4 w.heap.size 176 w' v' l ∧ Gr w w' := by
  obtain ⟨a, n, cap, rfl, -, -, hb, hn⟩ := hl.sl
  obtain ⟨v', w', hrun, hown, hg, -⟩ := app_attr (w.alloc (.cells #[.slice a n cap] 111)) w.heap.size 61 (OwnL.nil _ AttrR 4 w.heap.size 176) (RdAttrs.gr hl (by repeat (with_reducible first | assumption | exact Gr.refl _ | apply Gr.alloc | apply Gr.drewN | apply Gr.drew | apply Gr.iter | (refine Gr.setCell ?_ (by simp) _) | (refine Gr.trans ?_ (by assumption))))) (by simp; rw [hn.out]; exact hb) (by simp)
  have HH := Lib.hid (And.intro hrun (And.intro hown hg)); clear hrun hown hg
  go_enter Tryz.func196, Tryz.ntmps196
  go_wp2_with (at_builtin; refine wpList_run rfl _ _ _ rfl rfl rfl HH.out.1 ?_)
  go_ret
  exact ⟨_, rfl, HH.out.2.1, ((Gr.refl w).alloc _).grown HH.out.2.2 (by simp [Value.ownBlock])⟩
set_option maxHeartbeats 400000 in
theorem insLen_any (sl : Value) (t : ByteArray) (n : Int) (w : World) (hs : ∃ a n c, sl = .slice a n c) :
    Calls Tryz.prog 227 #[.agg #[sl, .string t, .int .i64 n]] w fun e w' => e = .returned (.int .i64 n) ∧ Gr w w' := by
  obtain ⟨a, n, c, rfl⟩ := hs
  go_enter Tryz.func227, Tryz.ntmps227
  go_wp2
  go_ret
  exact ⟨rfl, (by repeat (with_reducible first | assumption | exact Gr.refl _ | apply Gr.alloc | apply Gr.drewN | apply Gr.drew | apply Gr.iter | (refine Gr.setCell ?_ (by simp) _) | (refine Gr.trans ?_ (by assumption))))⟩
set_option maxHeartbeats 1000000 in
theorem insOp_any (l : List Attr) (sl : Value) (t : ByteArray) (n : Int) (w : World) (hl : RdAttrs w sl l) :
    Calls Tryz.prog 228 #[.agg #[sl, .string t, .int .i64 n]] w fun e w' => ∃ v', e = .returned (.agg #[.int .i64 1, .string t, .int .i64 0, .int .i64 0, .string ⟨#[]⟩, .int .i64 0, v']) ∧ OwnL AttrR 4 w.heap.size 176 w' v' l ∧ Gr w w' := by
  obtain ⟨a, k, cap, rfl, -, -, hb, hn⟩ := hl.sl
  go_enter Tryz.func228, Tryz.ntmps228
  go_wp2
  obtain ⟨W, hW, B1, B2, hg⟩ := blk2 w 190 #[.slice a k cap, .string t, .int .i64 n] 65 #[.int .i64 0, .string ⟨#[]⟩, .int .i64 0, .int .i64 0, .string ⟨#[]⟩, .int .i64 0, .slice none 0 0]
  have q0 := B1.cell 0
  have q1 := B1.cell 1
  simp at q0 q1
  rw [hW]
  have HW := Lib.hid hW; clear hW
  have q0d : ∀ n, (W.drewN n).cell? ⟨w.heap.size, 0, none⟩ = some (.slice a k cap) := fun n => q0
  go_region_with (go_at_call 196; refine (attrs_any l _ _ (RdAttrs.gr hl (by repeat (with_reducible first | assumption | exact Gr.refl _ | apply Gr.alloc | apply Gr.drewN | apply Gr.drew | apply Gr.iter | (refine Gr.setCell ?_ (by simp) _) | (refine Gr.trans ?_ (by assumption)))))).mono ?_; rintro e w3 ⟨v', rfl, ho, hg3⟩; obtain ⟨a', n', c', rfl, -⟩ := ho.sl; have b3 := (B2.gr (w' := w3) (by repeat (with_reducible first | assumption | exact Gr.refl _ | apply Gr.alloc | apply Gr.drewN | apply Gr.drew | apply Gr.iter | (refine Gr.setCell ?_ (by simp) _) | (refine Gr.trans ?_ (by assumption))))).cell; have f3 := (B2.gr (w' := w3) (by repeat (with_reducible first | assumption | exact Gr.refl _ | apply Gr.alloc | apply Gr.drewN | apply Gr.drew | apply Gr.iter | (refine Gr.setCell ?_ (by simp) _) | (refine Gr.trans ?_ (by assumption))))).frozen; have b1 := (B1.gr (w' := w3) (by repeat (with_reducible first | assumption | exact Gr.refl _ | apply Gr.alloc | apply Gr.drewN | apply Gr.drew | apply Gr.iter | (refine Gr.setCell ?_ (by simp) _) | (refine Gr.trans ?_ (by assumption))))).cell)
  all_goals
    go_wp2
    have B3 := ((((((((B2.gr (w' := w3) (by repeat (with_reducible first | assumption | exact Gr.refl _ | apply Gr.alloc | apply Gr.drewN | apply Gr.drew | apply Gr.iter | (refine Gr.setCell ?_ (by simp) _) | (refine Gr.trans ?_ (by assumption))))).set 0 (.int .i64 1)).set 1 (.string t)).set 2 (.int .i64 0)).set 3 (.int .i64 0)).set 4 (.string ⟨#[]⟩)).set 5 (.int .i64 0)).set 6 (.slice a' n' c')).cell
    simp at B3
    refine bodyPost_ret (v := .agg #[.int .i64 1, .string t, .int .i64 0, .int .i64 0, .string ⟨#[]⟩, .int .i64 0, .slice a' n' c']) (by simp [results, Tryz.results228, go_sem, B3]) rfl ⟨_, rfl, ?_, ?_⟩
    · have hlt : w.heap.size + 1 < W.heap.size := B2.lt
      refine OwnL.base_le (base := W.heap.size) ?_ hg.size
      iterate 7 (refine OwnAL.setCell ?_ (show _ + 1 < _ from hlt) _)
      exact ho
    · exact (by repeat (with_reducible first | assumption | exact Gr.refl _ | apply Gr.alloc | apply Gr.drewN | apply Gr.drew | apply Gr.iter | (refine Gr.setCell ?_ (by simp) _) | (refine Gr.trans ?_ (by assumption))))
end Ve
/- Walks of the pieces' and the values' methods, the rest. -/
namespace Ve
open Go Go.RowKit Go.Proofs

set_option maxHeartbeats 400000 in
theorem embLen_any (sl : Value) (t : ByteArray) (x : Value) (w : World) (hs : ∃ a n c, sl = .slice a n c) (hx : ∃ T y, x = .iface T y) :
    Calls Tryz.prog 229 #[.agg #[sl, .string t, x]] w fun e w' => e = .returned (.int .i64 1) ∧ Gr w w' := by
  obtain ⟨a, n, c, rfl⟩ := hs
  obtain ⟨T, y, rfl⟩ := hx
  go_enter Tryz.func229, Tryz.ntmps229
  go_wp2
  go_ret
  exact ⟨rfl, (by repeat (with_reducible first | assumption | exact Gr.refl _ | apply Gr.alloc | apply Gr.drewN | apply Gr.drew | apply Gr.iter | (refine Gr.setCell ?_ (by simp) _) | (refine Gr.trans ?_ (by assumption))))⟩
set_option maxHeartbeats 400000 in
theorem retLen_any (sl : Value) (n : Int) (w : World) (hs : ∃ a n c, sl = .slice a n c) :
    Calls Tryz.prog 224 #[.agg #[sl, .int .i64 n]] w fun e w' => e = .returned (.int .i64 n) ∧ Gr w w' := by
  obtain ⟨a, n, c, rfl⟩ := hs
  go_enter Tryz.func224, Tryz.ntmps224
  go_wp2
  go_ret
  exact ⟨rfl, (by repeat (with_reducible first | assumption | exact Gr.refl _ | apply Gr.alloc | apply Gr.drewN | apply Gr.drew | apply Gr.iter | (refine Gr.setCell ?_ (by simp) _) | (refine Gr.trans ?_ (by assumption))))⟩
set_option maxHeartbeats 400000 in
theorem delLen_any (n : Int) (w : World) :
    Calls Tryz.prog 226 #[.agg #[.int .i64 n]] w fun e w' => e = .returned (.int .i64 n) ∧ Gr w w' := by
  go_enter Tryz.func226, Tryz.ntmps226
  go_wp2
  go_ret
  exact ⟨rfl, (by repeat (with_reducible first | assumption | exact Gr.refl _ | apply Gr.alloc | apply Gr.drewN | apply Gr.drew | apply Gr.iter | (refine Gr.setCell ?_ (by simp) _) | (refine Gr.trans ?_ (by assumption))))⟩
set_option maxHeartbeats 1000000 in
theorem retOp_any (l : List Attr) (sl : Value) (n : Int) (w : World) (hl : RdAttrs w sl l) :
    Calls Tryz.prog 225 #[.agg #[sl, .int .i64 n]] w fun e w' => ∃ v', e = .returned (.agg #[.int .i64 3, .string ⟨#[]⟩, .int .i64 0, .int .i64 0, .string ⟨#[]⟩, .int .i64 n, v']) ∧ OwnL AttrR 4 w.heap.size 176 w' v' l ∧ Gr w w' := by
  obtain ⟨a, k, cap, rfl, -, -, hb, hn⟩ := hl.sl
  go_enter Tryz.func225, Tryz.ntmps225
  go_wp2
  obtain ⟨W, hW, B1, B2, hg⟩ := blk2 w 113 #[.slice a k cap, .int .i64 n] 65 #[.int .i64 0, .string ⟨#[]⟩, .int .i64 0, .int .i64 0, .string ⟨#[]⟩, .int .i64 0, .slice none 0 0]
  have q0 := B1.cell 0
  have q1 := B1.cell 1
  simp at q0 q1
  rw [hW]
  have HW := Lib.hid hW; clear hW
  go_region_with (go_at_call 196; refine (attrs_any l _ _ (RdAttrs.gr hl (by repeat (with_reducible first | assumption | exact Gr.refl _ | apply Gr.alloc | apply Gr.drewN | apply Gr.drew | apply Gr.iter | (refine Gr.setCell ?_ (by simp) _) | (refine Gr.trans ?_ (by assumption)))))).mono ?_; rintro e w3 ⟨v', rfl, ho, hg3⟩; obtain ⟨a', n', c', rfl, -⟩ := ho.sl; have b3 := (B2.gr (w' := w3) (by repeat (with_reducible first | assumption | exact Gr.refl _ | apply Gr.alloc | apply Gr.drewN | apply Gr.drew | apply Gr.iter | (refine Gr.setCell ?_ (by simp) _) | (refine Gr.trans ?_ (by assumption))))).cell; have f3 := (B2.gr (w' := w3) (by repeat (with_reducible first | assumption | exact Gr.refl _ | apply Gr.alloc | apply Gr.drewN | apply Gr.drew | apply Gr.iter | (refine Gr.setCell ?_ (by simp) _) | (refine Gr.trans ?_ (by assumption))))).frozen; have b1 := (B1.gr (w' := w3) (by repeat (with_reducible first | assumption | exact Gr.refl _ | apply Gr.alloc | apply Gr.drewN | apply Gr.drew | apply Gr.iter | (refine Gr.setCell ?_ (by simp) _) | (refine Gr.trans ?_ (by assumption))))).cell)
  all_goals
    go_wp2
    have B3 := ((((((((B2.gr (w' := w3) (by repeat (with_reducible first | assumption | exact Gr.refl _ | apply Gr.alloc | apply Gr.drewN | apply Gr.drew | apply Gr.iter | (refine Gr.setCell ?_ (by simp) _) | (refine Gr.trans ?_ (by assumption))))).set 0 (.int .i64 3)).set 1 (.string ⟨#[]⟩)).set 2 (.int .i64 0)).set 3 (.int .i64 0)).set 4 (.string ⟨#[]⟩)).set 5 (.int .i64 n)).set 6 (.slice a' n' c')).cell
    simp at B3
    refine bodyPost_ret (v := .agg #[.int .i64 3, .string ⟨#[]⟩, .int .i64 0, .int .i64 0, .string ⟨#[]⟩, .int .i64 n, .slice a' n' c']) (by simp [results, Tryz.results225, go_sem, B3]) rfl ⟨_, rfl, ?_, ?_⟩
    · have hlt : w.heap.size + 1 < W.heap.size := B2.lt
      refine OwnL.base_le (base := W.heap.size) ?_ hg.size
      iterate 7 (refine OwnAL.setCell ?_ (show _ + 1 < _ from hlt) _)
      exact ho
    · exact (by repeat (with_reducible first | assumption | exact Gr.refl _ | apply Gr.alloc | apply Gr.drewN | apply Gr.drew | apply Gr.iter | (refine Gr.setCell ?_ (by simp) _) | (refine Gr.trans ?_ (by assumption))))
set_option maxHeartbeats 1000000 in
theorem delOp_any (n : Int) (w : World) :
    Calls Tryz.prog 147 #[.agg #[.int .i64 n]] w fun e w' => e = .returned (.agg #[.int .i64 4, .string ⟨#[]⟩, .int .i64 0, .int .i64 0, .string ⟨#[]⟩, .int .i64 n, .slice none 0 0]) ∧ Gr w w' := by
  go_enter Tryz.func147, Tryz.ntmps147
  go_wp2
  exact bodyPost_ret (v := .agg #[.int .i64 4, .string ⟨#[]⟩, .int .i64 0, .int .i64 0, .string ⟨#[]⟩, .int .i64 n, .slice none 0 0]) (by simp [results, Tryz.results147, go_sem]) rfl ⟨rfl, (by repeat (with_reducible first | assumption | exact Gr.refl _ | apply Gr.alloc | apply Gr.drewN | apply Gr.drew | apply Gr.iter | (refine Gr.setCell ?_ (by simp) _) | (refine Gr.trans ?_ (by assumption))))⟩
def plainV (p : Plain) : Value := .agg #[.int .i64 p.kind, .int .i64 p.num, .string p.text]
set_option maxHeartbeats 400000 in
theorem flagPlain_any (b : Bool) (w : World) :
    Calls Tryz.prog 232 #[.bool b] w fun e w' => e = .returned (plainV ⟨1, if b then 1 else 0, es⟩) ∧ Gr w w' := by
  cases b
  all_goals
    go_enter Tryz.func232, Tryz.ntmps232
    go_wp2
  · exact bodyPost_ret (v := plainV ⟨1, 0, es⟩) (by simp [results, Tryz.results232, go_sem, plainV, es]) rfl ⟨rfl, (by repeat (with_reducible first | assumption | exact Gr.refl _ | apply Gr.alloc | apply Gr.drewN | apply Gr.drew | apply Gr.iter | (refine Gr.setCell ?_ (by simp) _) | (refine Gr.trans ?_ (by assumption))))⟩
  · exact bodyPost_ret (v := plainV ⟨1, 1, es⟩) (by simp [results, Tryz.results232, go_sem, plainV, es]) rfl ⟨rfl, (by repeat (with_reducible first | assumption | exact Gr.refl _ | apply Gr.alloc | apply Gr.drewN | apply Gr.drew | apply Gr.iter | (refine Gr.setCell ?_ (by simp) _) | (refine Gr.trans ?_ (by assumption))))⟩
set_option maxHeartbeats 400000 in
theorem numberPlain_any (n : Int) (w : World) :
    Calls Tryz.prog 234 #[.int .i64 n] w fun e w' => e = .returned (plainV ⟨2, n, es⟩) ∧ Gr w w' := by
  go_enter Tryz.func234, Tryz.ntmps234
  go_wp2
  exact bodyPost_ret (v := plainV ⟨2, n, es⟩) (by simp [results, Tryz.results234, go_sem, plainV, es]) rfl ⟨rfl, (by repeat (with_reducible first | assumption | exact Gr.refl _ | apply Gr.alloc | apply Gr.drewN | apply Gr.drew | apply Gr.iter | (refine Gr.setCell ?_ (by simp) _) | (refine Gr.trans ?_ (by assumption))))⟩
set_option maxHeartbeats 400000 in
theorem textPlain_any (t : ByteArray) (w : World) :
    Calls Tryz.prog 236 #[.string t] w fun e w' => e = .returned (plainV ⟨3, 0, t⟩) ∧ Gr w w' := by
  go_enter Tryz.func236, Tryz.ntmps236
  go_wp2
  exact bodyPost_ret (v := plainV ⟨3, 0, t⟩) (by simp [results, Tryz.results236, go_sem, plainV, es]) rfl ⟨rfl, (by repeat (with_reducible first | assumption | exact Gr.refl _ | apply Gr.alloc | apply Gr.drewN | apply Gr.drew | apply Gr.iter | (refine Gr.setCell ?_ (by simp) _) | (refine Gr.trans ?_ (by assumption))))⟩
set_option maxHeartbeats 400000 in
theorem nullPlain_any (w : World) :
    Calls Tryz.prog 238 #[.agg #[]] w fun e w' => e = .returned (plainV ⟨0, 0, es⟩) ∧ Gr w w' := by
  go_enter Tryz.func238, Tryz.ntmps238
  go_wp2
  exact bodyPost_ret (v := plainV ⟨0, 0, es⟩) (by simp [results, Tryz.results238, go_sem, plainV, es]) rfl ⟨rfl, (by repeat (with_reducible first | assumption | exact Gr.refl _ | apply Gr.alloc | apply Gr.drewN | apply Gr.drew | apply Gr.iter | (refine Gr.setCell ?_ (by simp) _) | (refine Gr.trans ?_ (by assumption))))⟩
/-- The method Plain of a value. -/
theorem plain_meth (p : Plain) (hp : kindOk p = true) : ∃ T y f, valV p = .iface T y ∧ (∀ d w, (method (d + 1) T y "Plain").run Tryz.prog w = .ok (f, y) w) ∧ (∀ args w, (callFunc f args).run Tryz.prog w = .ok (.enter f args) w) ∧ (∀ w, Calls Tryz.prog f #[y] w fun e w' => e = .returned (plainV p) ∧ Gr w w') := by
  obtain ⟨k, n, t⟩ := p
  unfold kindOk at hp
  simp only at hp
  unfold valV
  by_cases h1 : k = 1
  · subst h1
    simp at hp
    obtain ⟨h, rfl⟩ := hp
    refine ⟨_, _, _, if_pos rfl, fun d w => meth_Flag_Plain d _ w, enters_of Tryz.func232 (by kernel_rfl) rfl, fun w => (flagPlain_any _ w).mono fun e w' h' => ?_⟩
    rcases h with rfl | rfl
    · exact h'
    · exact h'
  · by_cases h2 : k = 2
    · subst h2
      simp at hp
      subst hp
      exact ⟨_, _, _, rfl, fun d w => meth_Number_Plain d _ w, enters_of Tryz.func234 (by kernel_rfl) rfl, fun w => numberPlain_any _ w⟩
    · by_cases h3 : k = 3
      · subst h3
        simp at hp
        subst hp
        exact ⟨_, _, _, rfl, fun d w => meth_Text_Plain d _ w, enters_of Tryz.func236 (by kernel_rfl) rfl, fun w => textPlain_any _ w⟩
      · by_cases h0 : k = 0
        · subst h0
          simp at hp
          obtain ⟨rfl, rfl⟩ := hp
          exact ⟨_, _, _, rfl, fun d w => meth_Null_Plain d w, enters_of Tryz.func238 (by kernel_rfl) rfl, fun w => nullPlain_any w⟩
        · simp [h1, h2, h3, h0] at hp
end Ve
/- Walks of comparisons of attributes; the reference's and the library's. -/
namespace Ve
open Go Go.RowKit Go.Proofs

set_option maxHeartbeats 400000 in
theorem sameLib_any (la lb : List Attr) (va vb : Value) (w : World) (ha : RdAttrs w va la) (hb : RdAttrs w vb lb) :
    Calls Tryz.prog 178 #[va, vb] w fun e w' => e = .returned (.bool (decide (la = lb))) ∧ Gr w w' := by
  obtain ⟨aa, n, ca, rfl, hla, hma, -, hna⟩ := ha.sl
  obtain ⟨ab, m, cb, rfl, hlb, hmb, -, hnb⟩ := hb.sl
  by_cases hlen : n = m
  · subst hlen
    go_enter Tryz.func178, Tryz.ntmps178
    go_wp2
    go_loopw [5, 13] (fun _ i wr => ∃ k : Nat, k ≤ n ∧ i = .int .i64 k ∧ Gr w wr ∧ la.take k = lb.take k) (fun _ i _ => n - (intOf i).toNat)
    case atStart => exact ⟨0, Nat.zero_le _, rfl, Gr.refl _, rfl⟩
    case round =>
      obtain ⟨k, hk, rfl, hg, ht⟩ := hrel
      have Ht := Lib.hid ht; clear ht
      by_cases hlt : k < n
      · obtain ⟨b1, o1, xk, xa, xb, xt, hx, rfl, a0, a1, a2, a3, -, -⟩ := (RdAttrs.gr ha hg).at_ k hlt
        obtain ⟨b2, o2, yk, ya, yb, yt, hy, rfl, c0, c1, c2, c3, -, -⟩ := (RdAttrs.gr hb hg).at_ k hlt
        have H := Lib.hid (And.intro hx hy); clear hx hy
        have hlt' : (k : Int) < n := by omega
        go_wp2
        go_quiet (fail)
        go_wp2
        · rename_i h
          have h := (eqA_eq ⟨xk, ⟨xa, xb, xt⟩⟩ ⟨yk, ⟨ya, yb, yt⟩⟩).symm.trans (show eqA xk xa xb xt yk ya yb yt = false by simpa using h)
          go_ret
          refine ⟨ret_bool ?_, (by repeat (with_reducible first | assumption | exact Gr.refl _ | apply Gr.alloc | apply Gr.drewN | apply Gr.drew | apply Gr.iter | (refine Gr.setCell ?_ (by simp) _) | (refine Gr.trans ?_ (by assumption))))⟩
          obtain ⟨hx, hy⟩ := H.out
          simp only [decide_eq_false_iff_not] at h
          simp only [Bool.false_eq, decide_eq_false_iff_not]
          intro e
          subst e
          exact h (Option.some.inj (hx.symm.trans hy))
        · rename_i h
          have h := (eqA_eq ⟨xk, ⟨xa, xb, xt⟩⟩ ⟨yk, ⟨ya, yb, yt⟩⟩).symm.trans (show eqA xk xa xb xt yk ya yb yt = true by simpa using h)
          have h := Lib.hid (of_decide_eq_true h)
          go_roundw
          case rel =>
            obtain ⟨hx, hy⟩ := H.out
            refine ⟨k + 1, by omega, by go_num, (by repeat (with_reducible first | assumption | exact Gr.refl _ | apply Gr.alloc | apply Gr.drewN | apply Gr.drew | apply Gr.iter | (refine Gr.setCell ?_ (by simp) _) | (refine Gr.trans ?_ (by assumption)))), ?_⟩
            rw [List.take_succ, List.take_succ, Ht.out, hx, hy, h.out]
          case measure => simp [intOf]; omega
      · obtain rfl : k = n := by omega
        go_wp2
        go_ret
        refine ⟨ret_bool ?_, (by repeat (with_reducible first | assumption | exact Gr.refl _ | apply Gr.alloc | apply Gr.drewN | apply Gr.drew | apply Gr.iter | (refine Gr.setCell ?_ (by simp) _) | (refine Gr.trans ?_ (by assumption))))⟩
        have ht := Ht.out
        have e1 := hna.out
        have e2 := hnb.out
        rw [List.take_of_length_le (by omega), List.take_of_length_le (by omega)] at ht
        simp [ht]
  · go_enter Tryz.func178, Tryz.ntmps178
    go_wp2
    go_ret
    exact ⟨ret_bool (by have e1 := hna.out; have e2 := hnb.out; simp; rintro rfl; omega), Gr.refl _⟩

set_option maxHeartbeats 400000 in
theorem sameRef_any (la lb : List Attr) (va vb : Value) (w : World) (ha : RdAttrs w va la) (hb : RdAttrs w vb lb) :
    Calls Tryz.prog 110 #[va, vb] w fun e w' => e = .returned (.bool (decide (la = lb))) ∧ Gr w w' := by
  obtain ⟨aa, n, ca, rfl, hla, hma, -, hna⟩ := ha.sl
  obtain ⟨ab, m, cb, rfl, hlb, hmb, -, hnb⟩ := hb.sl
  by_cases hlen : n = m
  · subst hlen
    go_enter Tryz.func110, Tryz.ntmps110
    go_wp2
    go_loopw [5, 13] (fun _ i wr => ∃ k : Nat, k ≤ n ∧ i = .int .i64 k ∧ Gr w wr ∧ la.take k = lb.take k) (fun _ i _ => n - (intOf i).toNat)
    case atStart => exact ⟨0, Nat.zero_le _, rfl, Gr.refl _, rfl⟩
    case round =>
      obtain ⟨k, hk, rfl, hg, ht⟩ := hrel
      have Ht := Lib.hid ht; clear ht
      by_cases hlt : k < n
      · obtain ⟨b1, o1, xk, xa, xb, xt, hx, rfl, a0, a1, a2, a3, -, -⟩ := (RdAttrs.gr ha hg).at_ k hlt
        obtain ⟨b2, o2, yk, ya, yb, yt, hy, rfl, c0, c1, c2, c3, -, -⟩ := (RdAttrs.gr hb hg).at_ k hlt
        have H := Lib.hid (And.intro hx hy); clear hx hy
        have hlt' : (k : Int) < n := by omega
        go_wp2
        go_quiet (fail)
        go_wp2
        · rename_i h
          have h := (eqA_eq ⟨xk, ⟨xa, xb, xt⟩⟩ ⟨yk, ⟨ya, yb, yt⟩⟩).symm.trans (show eqA xk xa xb xt yk ya yb yt = false by simpa using h)
          go_ret
          refine ⟨ret_bool ?_, (by repeat (with_reducible first | assumption | exact Gr.refl _ | apply Gr.alloc | apply Gr.drewN | apply Gr.drew | apply Gr.iter | (refine Gr.setCell ?_ (by simp) _) | (refine Gr.trans ?_ (by assumption))))⟩
          obtain ⟨hx, hy⟩ := H.out
          simp only [decide_eq_false_iff_not] at h
          simp only [Bool.false_eq, decide_eq_false_iff_not]
          intro e
          subst e
          exact h (Option.some.inj (hx.symm.trans hy))
        · rename_i h
          have h := (eqA_eq ⟨xk, ⟨xa, xb, xt⟩⟩ ⟨yk, ⟨ya, yb, yt⟩⟩).symm.trans (show eqA xk xa xb xt yk ya yb yt = true by simpa using h)
          have h := Lib.hid (of_decide_eq_true h)
          go_roundw
          case rel =>
            obtain ⟨hx, hy⟩ := H.out
            refine ⟨k + 1, by omega, by go_num, (by repeat (with_reducible first | assumption | exact Gr.refl _ | apply Gr.alloc | apply Gr.drewN | apply Gr.drew | apply Gr.iter | (refine Gr.setCell ?_ (by simp) _) | (refine Gr.trans ?_ (by assumption)))), ?_⟩
            rw [List.take_succ, List.take_succ, Ht.out, hx, hy, h.out]
          case measure => simp [intOf]; omega
      · obtain rfl : k = n := by omega
        go_wp2
        go_ret
        refine ⟨ret_bool ?_, (by repeat (with_reducible first | assumption | exact Gr.refl _ | apply Gr.alloc | apply Gr.drewN | apply Gr.drew | apply Gr.iter | (refine Gr.setCell ?_ (by simp) _) | (refine Gr.trans ?_ (by assumption))))⟩
        have ht := Ht.out
        have e1 := hna.out
        have e2 := hnb.out
        rw [List.take_of_length_le (by omega), List.take_of_length_le (by omega)] at ht
        simp [ht]
  · go_enter Tryz.func110, Tryz.ntmps110
    go_wp2
    go_ret
    exact ⟨ret_bool (by have e1 := hna.out; have e2 := hnb.out; simp; rintro rfl; omega), Gr.refl _⟩


set_option maxHeartbeats 400000 in
theorem same_any (la lb : List Attr) (va vb : Value) (w : World) (ha : RdAttrs w va la) (hb : RdAttrs w vb lb) :
    Calls Tryz.prog 157 #[va, vb] w fun e w' => e = .returned (.bool (decide (la = lb))) ∧ Gr w w' := by
  obtain ⟨aa, na, ca, rfl, -, -, -, -⟩ := ha.sl
  obtain ⟨ab, nb, cb, rfl, -, -, -, -⟩ := hb.sl
  go_enter Tryz.func157, Tryz.ntmps157
  go_wp2_with (go_at_call 178; refine (sameLib_any _ _ _ _ _ ha hb).mono ?_; rintro e w' ⟨rfl, hg⟩)
  go_ret
  exact ⟨rfl, (by repeat (with_reducible first | assumption | exact Gr.refl _ | apply Gr.alloc | apply Gr.drewN | apply Gr.drew | apply Gr.iter | (refine Gr.setCell ?_ (by simp) _) | (refine Gr.trans ?_ (by assumption))))⟩
end Ve
/- Walks of the pieces' methods, by pieces. -/
namespace Ve
open Go Go.RowKit Go.Proofs

theorem OwnAL.rd {base : Nat} {w : World} {v : Value} {l : List Attr} (h : OwnL AttrR 4 base 176 w v l) (hb : l.length ≤ 1099511627776) : OwnA w v l := ⟨h.base_le (Nat.zero_le _), hb⟩
set_option maxHeartbeats 2000000 in
theorem embOp_any (l : List Attr) (sl : Value) (t : ByteArray) (p : Plain) (w : World) (hl : RdAttrs w sl l) (hp : kindOk p = true) :
    Calls Tryz.prog 230 #[.agg #[sl, .string t, valV p]] w fun e w' => ∃ v', e = .returned (.agg #[.int .i64 2, .string t, .int .i64 p.kind, .int .i64 p.num, .string p.text, .int .i64 0, v']) ∧ OwnL AttrR 4 w.heap.size 176 w' v' l ∧ Gr w w' := by
  obtain ⟨a, k, cap, rfl, -, -, hb, hn⟩ := hl.sl
  obtain ⟨T, y, f, hv, hm, he, hc⟩ := plain_meth p hp
  rw [hv]
  have HV := Lib.hid hv; clear hv
  have HC := Lib.hid hc; clear hc
  go_enter Tryz.func230, Tryz.ntmps230
  go_wp2
  obtain ⟨W, hW, B1, B2, hg⟩ := blk2 w 194 #[.slice a k cap, .string t, .iface T y] 65 #[.int .i64 0, .string ⟨#[]⟩, .int .i64 0, .int .i64 0, .string ⟨#[]⟩, .int .i64 0, .slice none 0 0]
  have q0 := B1.cell 0
  have q1 := B1.cell 1
  have q2 := B1.cell 2
  simp at q0 q1 q2
  rw [hW]
  have HW := Lib.hid hW; clear hW
  go_region_with (first | (go_at_call 196; refine (attrs_any l _ _ (RdAttrs.gr hl (by repeat (with_reducible first | assumption | exact Gr.refl _ | apply Gr.alloc | apply Gr.drewN | apply Gr.drew | apply Gr.iter | (refine Gr.setCell ?_ (by simp) _) | (refine Gr.trans ?_ (by assumption)))))).mono ?_; rintro e w3 ⟨v', rfl, ho, hg3⟩; obtain ⟨a', n', c', rfl, -⟩ := ho.sl; have b3 := (B2.gr (w' := w3) (by repeat (with_reducible first | assumption | exact Gr.refl _ | apply Gr.alloc | apply Gr.drewN | apply Gr.drew | apply Gr.iter | (refine Gr.setCell ?_ (by simp) _) | (refine Gr.trans ?_ (by assumption))))).cell; have f3 := (B2.gr (w' := w3) (by repeat (with_reducible first | assumption | exact Gr.refl _ | apply Gr.alloc | apply Gr.drewN | apply Gr.drew | apply Gr.iter | (refine Gr.setCell ?_ (by simp) _) | (refine Gr.trans ?_ (by assumption))))).frozen; have b1 := (B1.gr (w' := w3) (by repeat (with_reducible first | assumption | exact Gr.refl _ | apply Gr.alloc | apply Gr.drewN | apply Gr.drew | apply Gr.iter | (refine Gr.setCell ?_ (by simp) _) | (refine Gr.trans ?_ (by assumption))))).cell) | (go_at_fn f; refine (HC.out _).mono ?_; rintro e w2 ⟨rfl, hg2⟩; dsimp only [plainV]; have b2 := (B1.gr (w' := w2) (by repeat (with_reducible first | assumption | exact Gr.refl _ | apply Gr.alloc | apply Gr.drewN | apply Gr.drew | apply Gr.iter | (refine Gr.setCell ?_ (by simp) _) | (refine Gr.trans ?_ (by assumption))))).cell; have b4 := (B2.gr (w' := w2) (by repeat (with_reducible first | assumption | exact Gr.refl _ | apply Gr.alloc | apply Gr.drewN | apply Gr.drew | apply Gr.iter | (refine Gr.setCell ?_ (by simp) _) | (refine Gr.trans ?_ (by assumption))))).cell; have f4 := (B2.gr (w' := w2) (by repeat (with_reducible first | assumption | exact Gr.refl _ | apply Gr.alloc | apply Gr.drewN | apply Gr.drew | apply Gr.iter | (refine Gr.setCell ?_ (by simp) _) | (refine Gr.trans ?_ (by assumption))))).frozen))
  all_goals first
   | (go_wp2
      have B3 := ((((((((B2.gr (w' := w3) (by repeat (with_reducible first | assumption | exact Gr.refl _ | apply Gr.alloc | apply Gr.drewN | apply Gr.drew | apply Gr.iter | (refine Gr.setCell ?_ (by simp) _) | (refine Gr.trans ?_ (by assumption))))).set 0 (.int .i64 2)).set 1 (.string t)).set 2 (.int .i64 p.kind)).set 3 (.int .i64 p.num)).set 4 (.string p.text)).set 5 (.int .i64 0)).set 6 (.slice a' n' c')).cell
      simp at B3
      refine bodyPost_ret (v := .agg #[.int .i64 2, .string t, .int .i64 p.kind, .int .i64 p.num, .string p.text, .int .i64 0, .slice a' n' c']) (by simp [results, Tryz.results230, go_sem, B3]) rfl ⟨_, rfl, ?_, ?_⟩
      · have hlt : w.heap.size + 1 < W.heap.size := B2.lt
        refine OwnL.base_le (base := W.heap.size) ?_ hg.size
        iterate 7 (refine OwnAL.setCell ?_ (show _ + 1 < _ from hlt) _)
        exact OwnL.base_le (OwnL.gr (w := w3) ho (fun _ _ h => h) (by repeat (with_reducible first | assumption | exact Gr.refl _ | apply Gr.alloc | apply Gr.drewN | apply Gr.drew | apply Gr.iter | (refine Gr.setCell ?_ (by simp) _) | (refine Gr.trans ?_ (by assumption))))) (Gr.size (w := W) (w' := _) (by repeat (with_reducible first | assumption | exact Gr.refl _ | apply Gr.alloc | apply Gr.drewN | apply Gr.drew | apply Gr.iter | (refine Gr.setCell ?_ (by simp) _) | (refine Gr.trans ?_ (by assumption)))))
      · exact (by repeat (with_reducible first | assumption | exact Gr.refl _ | apply Gr.alloc | apply Gr.drewN | apply Gr.drew | apply Gr.iter | (refine Gr.setCell ?_ (by simp) _) | (refine Gr.trans ?_ (by assumption)))))
   | (go_wp2
      have B3 := ((((((((B2.gr (w' := w2) (by repeat (with_reducible first | assumption | exact Gr.refl _ | apply Gr.alloc | apply Gr.drewN | apply Gr.drew | apply Gr.iter | (refine Gr.setCell ?_ (by simp) _) | (refine Gr.trans ?_ (by assumption))))).set 0 (.int .i64 2)).set 1 (.string t)).set 2 (.int .i64 p.kind)).set 3 (.int .i64 p.num)).set 4 (.string p.text)).set 5 (.int .i64 0)).set 6 (.slice a' n' c')).cell
      simp at B3
      refine bodyPost_ret (v := .agg #[.int .i64 2, .string t, .int .i64 p.kind, .int .i64 p.num, .string p.text, .int .i64 0, .slice a' n' c']) (by simp [results, Tryz.results230, go_sem, B3]) rfl ⟨_, rfl, ?_, ?_⟩
      · have hlt : w.heap.size + 1 < W.heap.size := B2.lt
        refine OwnL.base_le (base := W.heap.size) ?_ hg.size
        iterate 7 (refine OwnAL.setCell ?_ (show _ + 1 < _ from hlt) _)
        exact OwnL.base_le (OwnL.gr (w := w3) ho (fun _ _ h => h) (by repeat (with_reducible first | assumption | exact Gr.refl _ | apply Gr.alloc | apply Gr.drewN | apply Gr.drew | apply Gr.iter | (refine Gr.setCell ?_ (by simp) _) | (refine Gr.trans ?_ (by assumption))))) (Gr.size (w := W) (w' := _) (by repeat (with_reducible first | assumption | exact Gr.refl _ | apply Gr.alloc | apply Gr.drewN | apply Gr.drew | apply Gr.iter | (refine Gr.setCell ?_ (by simp) _) | (refine Gr.trans ?_ (by assumption)))))
      · exact (by repeat (with_reducible first | assumption | exact Gr.refl _ | apply Gr.alloc | apply Gr.drewN | apply Gr.drew | apply Gr.iter | (refine Gr.setCell ?_ (by simp) _) | (refine Gr.trans ?_ (by assumption)))))
end Ve
