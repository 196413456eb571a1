/- Walks: vellumlaw07.lives. -/
import Derived.Test.YtapolkhdikdjbaaGreatDoorRO
set_option linter.all false
namespace Ve
open Go Go.RowKit Go.Proofs Go.Shelf

attribute [local go_sem] Oper.semAt_some

def la07 : List Op := [⟨1, ⟨#[97, 98, 99]⟩, ep, 0, []⟩, ⟨4, es, ep, 2, []⟩]
def pa07 : List Piece := [.ins [] ⟨#[97, 98, 99]⟩ 3, .del 2]
theorem small07 : ∀ o ∈ la07, o.attrs = [] ∧ szS o.text ∧ szS o.val.text := by
  intro o ho
  simp only [la07, List.mem_cons, List.mem_nil_iff, or_false] at ho
  rcases ho with rfl | rfl <;> exact ⟨rfl, by simp only [szS]; decide, by simp only [szS]; decide⟩
theorem canon07 : canonL la07 = true := by decide +kernel
theorem piece07 : la07.map toPiece = pa07 := by decide +kernel
theorem made07 : ∃ s, pushAll la07 = (s, 0, 0) ∧ s.delta = pa07 := by
  obtain ⟨s, h1, h2⟩ := canon_push canon07
  exact ⟨s, h1, h2.trans piece07⟩
theorem can07 : Can pa07 := piece07 ▸ Can.of_canon canon07
theorem next07 : (nextP pa07 2).1.len = 2 ∧ leftP (nextP pa07 2).2 = 1 ∧ (nextP pa07 2).2.length = 2 ∧ kindP pa07 = 1 ∧ leftP pa07 = 3 ∧ decide (pa07 = []) = false ∧ opsum ((nextP pa07 2).2.map Piece.op) ≤ 1099511627776 ∧ pa07.length = 2 := by decide +kernel
/-- What the box of a counting loop holds. -/
def CntI (w : World) (B : Nat) (pre : List Hand) (W : World) : Prop := Blk W B 3 #[.int .i64 pre.length] ∧ Below w.heap.size w W
theorem func_nil1 (f : Nat) (b : Array Value) (w : World) : (binOp .eql 75 (.func (.func f) #[] b) .nilFunc).run Tryz.prog w = .ok (.bool false) w := by kernel_rfl
theorem func_nil2 (f : Nat) (b : Array Value) (w : World) : (binOp .eql 59 (.func (.func f) #[] b) .nilFunc).run Tryz.prog w = .ok (.bool false) w := by kernel_rfl
attribute [local go_sem] func_nil1 func_nil2
set_option maxRecDepth 100000 in
set_option maxHeartbeats 8000000 in
theorem lives07_any {ea : Nat → Addr} (w : World) (hE : Env ea w) : Calls Tryz.prog 15 #[] w fun e w' => e = .returned (.bool true) ∧ Gr w w' := by
  obtain ⟨N, hN⟩ : ∃ N : Nat, N = 5 := ⟨5, rfl⟩
  refine (callsIn_wide (n := N)).1 ?_
  have h1 : 1 ≤ N := by omega
  obtain ⟨s, hs1, hs2⟩ := made07
  have HPU := Lib.hid (And.intro hs1 hs2); clear hs1 hs2
  obtain ⟨pa, hpa⟩ : ∃ pa, pa07 = pa := ⟨_, rfl⟩
  have hcan := can07
  obtain ⟨n1, n2, n3, n4, n5, n6, n7, n8⟩ := next07
  rw [hpa] at HPU hcan n1 n2 n3 n4 n5 n6 n7 n8
  obtain ⟨hc2, -, -⟩ := hcan.next (n := 2) (by omega)
  obtain ⟨rs, hrs⟩ : ∃ rs, (nextP pa 2).2 = rs := ⟨_, rfl⟩
  obtain ⟨fr, hfr⟩ : ∃ fr, (nextP pa 2).1 = fr := ⟨_, rfl⟩
  rw [hrs] at n2 n3 n7 hc2
  rw [hfr] at n1
  have HN := Lib.hid (And.intro hrs hfr); clear hrs hfr
  have N1 := Lib.hid n1; have N2 := Lib.hid n2; have N3 := Lib.hid n3; have N4 := Lib.hid n4; have N5 := Lib.hid n5; have N6 := Lib.hid n6; have N7 := Lib.hid n7; have N8 := Lib.hid n8
  clear n1 n2 n3 n4 n5 n6 n7 n8 hpa
  have hlit1 := rd_lit w la07 2 rfl (by omega) small07 #[.int .i64 1, .string ⟨#[97, 98, 99]⟩, .int .i64 0, .int .i64 0, .string ⟨#[]⟩, .int .i64 0, .slice none 0 0, .int .i64 4, .string ⟨#[]⟩, .int .i64 0, .int .i64 0, .string ⟨#[]⟩, .int .i64 2, .slice none 0 0] rfl 46
  refine callsIn_of_wp_marks Tryz.func15 rfl trivial ?_ rfl
  simp only [Tryz.ntmps15, List.size_toArray, List.length_cons, List.length_nil, Nat.reduceAdd, Nat.reduceSub, Array.replicate_succ, Array.replicate_zero, List.push_toArray, List.append_toArray, List.nil_append, List.cons_append]
  gi_wp2_with (first
    | (refine ⟨trivial, ?_⟩; gi_at_call 87; refine (callsIn_wide.2 (bof_any la07 _ _ (hE.gr (by repeat (with_reducible first | assumption | exact Gr.refl _ | apply Gr.alloc | apply Gr.drewN | apply Gr.drew | apply Gr.iter | (refine Gr.setCell ?_ (by simp) _) | (refine Gr.trans ?_ (by assumption))))) (RdOps.gr hlit1 (by repeat (with_reducible first | assumption | exact Gr.refl _ | apply Gr.alloc | apply Gr.drewN | apply Gr.drew | apply Gr.iter | (refine Gr.setCell ?_ (by simp) _) | (refine Gr.trans ?_ (by assumption))))) (by decide) (by decide))).mono ?_; rw [HPU.out.1]; rintro e w1 ⟨v1, rfl, hg1, hd1, -⟩; have hd1 := hd1 rfl; rw [HPU.out.2] at hd1; obtain ⟨g1, sl1, hv1, hbr1⟩ := hd1; subst hv1; have hDa : DeltaR w1 (.pointer (some ⟨g1, 0, none⟩)) pa := ⟨g1, sl1, rfl, hbr1⟩; clear hbr1; dsimp only; rw [errOf_zero])
    | (refine ⟨trivial, ?_⟩; gi_at_call 18; refine (callsIn_wide.2 (wnew_any pa _ _ (hE.gr (by repeat (with_reducible first | assumption | exact Gr.refl _ | apply Gr.alloc | apply Gr.drewN | apply Gr.drew | apply Gr.iter | (refine Gr.setCell ?_ (by simp) _) | (refine Gr.trans ?_ (by assumption))))) (hDa.gr (by repeat (with_reducible first | assumption | exact Gr.refl _ | apply Gr.alloc | apply Gr.drewN | apply Gr.drew | apply Gr.iter | (refine Gr.setCell ?_ (by simp) _) | (refine Gr.trans ?_ (by assumption))))) hcan.ok)).mono ?_; rintro e w2 ⟨gw, lb2, rfl, hge2, hW2, -, hg2⟩)
    | (refine ⟨trivial, ?_⟩; gi_at_call 26; refine (callsIn_wide.2 (wkindw_any gw lb2 pa _ (hW2.gr (by repeat (with_reducible first | assumption | exact Gr.refl _ | apply Gr.alloc | apply Gr.drewN | apply Gr.drew | apply Gr.iter | (refine Gr.setCell ?_ (by simp) _) | (refine Gr.trans ?_ (by assumption))))))).mono ?_; rw [N4.out]; rintro e w3 ⟨rfl, hg3⟩)
    | (refine ⟨trivial, ?_⟩; gi_at_call 28; have _h := hk6; refine (callsIn_wide.2 (wleft_any gw lb6 rs _ (hw6.gr (by repeat (with_reducible first | assumption | exact Gr.refl _ | apply Gr.alloc | apply Gr.drewN | apply Gr.drew | apply Gr.iter | (refine Gr.setCell ?_ (by simp) _) | (refine Gr.trans ?_ (by assumption))))))).mono ?_; rw [N2.out]; rintro e w8 ⟨rfl, hg8⟩)
    | (refine ⟨trivial, ?_⟩; gi_at_call 28; refine (callsIn_wide.2 (wleft_any gw lb2 pa _ (hW2.gr (by repeat (with_reducible first | assumption | exact Gr.refl _ | apply Gr.alloc | apply Gr.drewN | apply Gr.drew | apply Gr.iter | (refine Gr.setCell ?_ (by simp) _) | (refine Gr.trans ?_ (by assumption))))))).mono ?_; rw [N5.out]; rintro e w4 ⟨rfl, hg4⟩)
    | (refine ⟨trivial, ?_⟩; gi_at_call 30; refine (callsIn_wide.2 (wdone_any gw lb2 pa _ (hW2.gr (by repeat (with_reducible first | assumption | exact Gr.refl _ | apply Gr.alloc | apply Gr.drewN | apply Gr.drew | apply Gr.iter | (refine Gr.setCell ?_ (by simp) _) | (refine Gr.trans ?_ (by assumption))))))).mono ?_; rw [N6.out]; rintro e w5 ⟨rfl, hg5⟩)
    | (refine ⟨trivial, ?_⟩; gi_at_call 19; refine (callsIn_wide.2 (wnext_int gw lb2 pa 2 _ (hE.gr (by repeat (with_reducible first | assumption | exact Gr.refl _ | apply Gr.alloc | apply Gr.drewN | apply Gr.drew | apply Gr.iter | (refine Gr.setCell ?_ (by simp) _) | (refine Gr.trans ?_ (by assumption))))) (hW2.gr (by repeat (with_reducible first | assumption | exact Gr.refl _ | apply Gr.alloc | apply Gr.drewN | apply Gr.drew | apply Gr.iter | (refine Gr.setCell ?_ (by simp) _) | (refine Gr.trans ?_ (by assumption))))) hcan.ok (by omega) (by omega))).mono ?_; rintro e w6 ⟨pv, lb6, rfl, hp6, hw6, hl6, hk6⟩; rw [HN.out.1] at hw6; rw [HN.out.2] at hp6; have hG6 : Gr w w6 := Gr.kgs (show Gr w w5 from (by repeat (with_reducible first | assumption | exact Gr.refl _ | apply Gr.alloc | apply Gr.drewN | apply Gr.drew | apply Gr.iter | (refine Gr.setCell ?_ (by simp) _) | (refine Gr.trans ?_ (by assumption))))) hk6 (fun b h => by subst h; exact Nat.le_trans (Gr.size (w := w) (w' := w1) (by repeat (with_reducible first | assumption | exact Gr.refl _ | apply Gr.alloc | apply Gr.drewN | apply Gr.drew | apply Gr.iter | (refine Gr.setCell ?_ (by simp) _) | (refine Gr.trans ?_ (by assumption))))) hge2); have hD6 : DeltaR w6 (.pointer (some ⟨g1, 0, none⟩)) pa := hDa.gr (Gr.kgs (show Gr w1 w5 from (by repeat (with_reducible first | assumption | exact Gr.refl _ | apply Gr.alloc | apply Gr.drewN | apply Gr.drew | apply Gr.iter | (refine Gr.setCell ?_ (by simp) _) | (refine Gr.trans ?_ (by assumption))))) hk6 (fun b h => by subst h; exact hge2)); obtain ⟨T7, y7, f7, rfl, hm7, he7, hcl7⟩ := len_meth hp6; rw [N1.out] at hcl7; have HCL := Lib.hid hcl7; clear hcl7)
    | (refine ⟨trivial, ?_⟩; gi_at_fn f7; refine (callsIn_wide.2 (HCL.out _)).mono ?_; rintro e w7 ⟨rfl, hg7⟩)
    | (refine ⟨trivial, ?_⟩; gi_at_call 25; refine (callsIn_wide.2 (wrest_any gw lb6 rs _ (hE.gr (by repeat (with_reducible first | assumption | exact Gr.refl _ | apply Gr.alloc | apply Gr.drewN | apply Gr.drew | apply Gr.iter | (refine Gr.setCell ?_ (by simp) _) | (refine Gr.trans ?_ (by assumption))))) (hw6.gr (by repeat (with_reducible first | assumption | exact Gr.refl _ | apply Gr.alloc | apply Gr.drewN | apply Gr.drew | apply Gr.iter | (refine Gr.setCell ?_ (by simp) _) | (refine Gr.trans ?_ (by assumption))))) hc2 N7.out (by rw [N3.out]; omega))).mono ?_; rintro e w9 ⟨v9, rfl, hd9, hg9⟩; obtain ⟨g9, sl9, hv9, hbr9⟩ := hd9; subst hv9; have hDr : DeltaR w9 (.pointer (some ⟨g9, 0, none⟩)) rs := ⟨g9, sl9, rfl, hbr9⟩; clear hbr9)
    | (refine ⟨trivial, ?_⟩; gi_at_call 40; refine (callsIn_wide.2 (each_any _ _)).mono ?_; rintro e w10 ⟨rfl, rfl⟩)
    | (refine ⟨trivial, ?_⟩; gi_at_call 32; refine (callsIn_wide.2 (wsteps_any _ _ _)).mono ?_; rintro e w11 ⟨rfl, rfl⟩)
    | (refine ⟨trivial, ?_⟩; gi_at_call 89; refine (callsIn_wide.2 (dcount_any rs _ _ (hDr.gr (by repeat (with_reducible first | assumption | exact Gr.refl _ | apply Gr.alloc | apply Gr.drewN | apply Gr.drew | apply Gr.iter | (refine Gr.setCell ?_ (by simp) _) | (refine Gr.trans ?_ (by assumption))))))).mono ?_; rw [N3.out]; rintro e w12 ⟨rfl, hg12⟩))
  have hB0 : Blk w12 w9.heap.size 3 #[.int .i64 0] := (((Blk.new w9 3 #[.int .i64 0]).alloc _ |>.alloc _).alloc _).gr hg12
  have hX0 : w12.cell? ⟨w9.heap.size + 1, 0, none⟩ = some (.pointer (some ⟨g1, 0, none⟩)) := by
    have h := Blk.new (w9.alloc (.cells #[.int .i64 0] 3)) 26 #[.pointer (some ⟨g1, 0, none⟩)]
    rw [World.size_alloc] at h
    exact ((h.alloc _ |>.alloc _).gr hg12).cell 0
  have hx1 : w9.heap.size + 1 < w12.heap.size := World.block_lt_of_cell? _ _ hX0
  have hD12 : DeltaR w12 (.pointer (some ⟨g1, 0, none⟩)) pa := DeltaR.gr (w := w6) (w' := w12) hD6 (by repeat (with_reducible first | assumption | exact Gr.refl _ | apply Gr.alloc | apply Gr.drewN | apply Gr.drew | apply Gr.iter | (refine Gr.setCell ?_ (by simp) _) | (refine Gr.trans ?_ (by assumption))))
  have hG12 : Gr w w12 := (by repeat (with_reducible first | assumption | exact Gr.refl _ | apply Gr.alloc | apply Gr.drewN | apply Gr.drew | apply Gr.iter | (refine Gr.setCell ?_ (by simp) _) | (refine Gr.trans ?_ (by assumption))))
  have hz9 : w.heap.size ≤ w9.heap.size := Gr.size (w := w) (w' := w9) (by repeat (with_reducible first | assumption | exact Gr.refl _ | apply Gr.alloc | apply Gr.drewN | apply Gr.drew | apply Gr.iter | (refine Gr.setCell ?_ (by simp) _) | (refine Gr.trans ?_ (by assumption))))
  have hN8 := N8.out
  obtain ⟨G9, hG9⟩ : ∃ G9, w9.heap.size = G9 := ⟨_, rfl⟩
  rw [hG9] at hB0 hX0 hx1 hz9 ⊢
  clear hg12 hG9
  apply wpIn_rangeFunc_ownF rfl h1 (gf := 110) (lb := #[.pointer (some ⟨G9 + 1, 0, none⟩)]) rfl trivial (enters_of Tryz.func110 (by kernel_rfl) rfl)
    (each_stops (N - 1) (G9 + 1) (by omega) pa _ _ (hE.gr hG12) hX0 hx1 hD12 hcan.ok) (fun h k => h.trans k) (fun W l o o' _ h ho _ => Kq.put W l o o' h ho) (Below.refl _ _) (fun _ => rfl)
    (fun pre W => Blk W G9 3 #[.int .i64 pre.length] ∧ Below w.heap.size w W)
    (fun _ _ _ => False)
    (OwnFrom.and (fun s W W' row hs hg hr => blk_kept hs hg fun r e => (hr r e).2) (ownFrom_below (Nat.le_refl _) hG12.size))
    (fun _ _ _ _ _ hs _ _ => hs)
    ⟨hB0, hG12⟩ _ ?assign ?body ?done ?stop
  case assign =>
    intro l x W K hK
    gi_wp2
    exact hK
  case body =>
    rintro L pre x W ⟨hb1, hB⟩ hlen
    have hd : 1 ≤ N - 1 - 1 := by omega
    rw [hN8] at hlen
    have c1 := hb1.cell
    have f1 := hb1.frozen
    have z1 := hb1.lt
    gi_wp2
    refine ⟨KeepsOthers.setCell _ _ _, (Kq.refl W).set hb1 rfl 0 _, ?_, hB.setCell (p := ⟨G9, 0, none⟩) hz9 _⟩
    rw [List.length_append, List.length_singleton]
    have h := hb1.set 0 (.int .i64 ((pre.length + 1 : Nat) : Int))
    exact h
  case done =>
    rintro D ys W hD hys ⟨hb1, hB⟩ hK
    have hyl : ys.length = 2 := by rw [← hN8, ← hys, List.length_map]
    rw [hyl] at hb1
    have c1 := hb1.cell
    gi_wp2
    refine ⟨by simp, .inl ⟨_, _, rfl, run_takeDeferred hK, ?_⟩⟩
    refine ⟨.bool true, ?_, rfl, hB.trans (belowK_b (w := w) (Nat.le_refl _) W D _ _ (by have := hG12.size; omega) hK rfl rfl)⟩
    simp [results, Tryz.f15, go_sem]
  case stop =>
    rintro D c pre W _ _ h _
    exact h.elim
end Ve
